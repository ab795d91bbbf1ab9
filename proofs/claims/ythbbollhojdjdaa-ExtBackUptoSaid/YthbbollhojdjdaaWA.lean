/- WALKS, 10: the document's example. Conditions: none. -/
import Derived.Test.YthbbollhojdjdaaW9
namespace Go.Proofs.Ythbbollhojdjdaa
open Go.Ab
set_option maxRecDepth 100000
set_option linter.unusedSimpArgs false

theorem exT_chk : chkB exT = true := by kernel_rfl
theorem exT_enc : enc exT = [108, 0, 0, 0, 1, 97, 1, 106] := by kernel_rfl
theorem bytesA_bsl : ∀ b : List UInt8, bytesA (bsl b) = some b
  | [] => rfl
  | x :: b => by
    have := bytesA_bsl b
    rw [bsl_cons]
    simp only [ofByte, bytesA, this]
    simp

theorem awake_does : FDoes Try.prog 9 [] [] [.v (.bool true)] [] none := by
  refine FDoes.of (E := env) ttok mixed Try.func9 (by kernel_rfl) rfl (by kernel_rfl) (rl := [.tmp 0]) rfl (Nat.le_of_ble_eq_true rfl) false ?_
  simp only [go_sem, W_cond, W_block]
  have hc := Put_does true 0 true [] (.inl rfl) exT (by simp) exT_chk
  rw [exT_enc, List.nil_append] at hc
  refine WCallR_does (FDoes.given hc ?_) (by rfl) (by rfl) ?_
  · refine .same (.cons (SubV.agg (by rfl) ?_) .nil)
    refine .same (.same (.same (.same (.same (.cons (SubV.parts _ _ _ (.cons ?_ (.refl _))) .nil)))))
    exact .same (.same (.cons (SubV.full _ _ _ _) (.refl _)))
  · simp only [go_sem, W_cond, W_block, bytesA_bsl]
end Go.Proofs.Ythbbollhojdjdaa
