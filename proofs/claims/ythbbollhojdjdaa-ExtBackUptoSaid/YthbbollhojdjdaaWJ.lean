/- WALKS, 19: ext.Get. Conditions: lengths below the greatest. -/
import Derived.Test.YthbbollhojdjdaaWI
namespace Go.Proofs.Ythbbollhojdjdaa
open Go.Ab
set_option maxRecDepth 100000
set_option linter.unusedSimpArgs false
set_option linter.unusedVariables false

def rGet (B : List UInt8) (at' : Nat) : Except Int (T × Nat × Int) := rTerm B (B.length + 1) 1 at' 0
def getT : Except Int (T × Nat × Int) → T
  | .ok (t, _, _) => t
  | .error _ => T0
def getP : Except Int (T × Nat × Int) → Int
  | .ok (_, p, _) => p
  | .error _ => 0
def getE : Except Int (T × Nat × Int) → Int
  | .ok _ => 0
  | .error c => c

theorem Get_out (bn f : Bool) (B : List UInt8) (a : Int) (h : a < 0 ∨ a > B.length) :
    FDoes Try.prog 13 [.sl bn 1 (bsl B) f, .int .i64 a] [none, none] [.v (tA T0), .v (.int .i64 0), .v (.int .i64 1)] [none, none] none := by
  refine FDoes.of (E := env) ttok mixed Try.func13 (by kernel_rfl) rfl (by kernel_rfl) (rl := [.cell 4 28, .tmp 5, .tmp 6]) rfl (Nat.le_of_ble_eq_true rfl) false ?_
  by_cases h1 : a < 0
  · simp only [go_sem, W_cond, W_block, h1, tA_T0]
  · have h2 : a > B.length := by omega
    simp only [go_sem, W_cond, W_block, h1, h2, tA_T0]

theorem Get_does (bn : Bool) (B : List UInt8) (hbn : bn = true → B = []) (hB : B.length ≤ 1000000000) (a : Nat) (h : a ≤ B.length) :
    FDoes Try.prog 13 [.sl bn 1 (bsl B) false, .int .i64 a] [none, none] [.v (tA (getT (rGet B a))), .v (.int .i64 (getP (rGet B a))), .v (.int .i64 (getE (rGet B a)))] [none, none] none := by
  refine FDoes.of (E := env) ttok mixed Try.func13 (by kernel_rfl) rfl (by kernel_rfl) (rl := [.cell 4 28, .tmp 5, .tmp 6]) rfl (Nat.le_of_ble_eq_true rfl) false ?_
  have h1 : ¬ (a : Int) < 0 := by omega
  have h2 : ¬ (a : Int) > B.length := by omega
  simp only [go_sem, W_cond, W_block, h1, h2]
  have hterm := term_does (B.length + 1) bn B hbn hB 1 (by omega) (by omega) a 0 h (by omega) (by omega) (by omega)
  simp only [rdC] at hterm
  refine WCallR_any hterm (by rfl) (by rfl) ?_
  clear hterm
  rintro _ _ _ ⟨t, p, k, e, rfl, rfl, rfl, hres⟩
  rw [rdC]
  rw [← rGet] at hres
  cases hx : rGet B a with
  | error c =>
    rw [hx] at hres
    obtain ⟨rfl, hc⟩ := hres
    simp only [go_sem, W_cond, W_block, tA_eq, hc, getT, getP, getE]
    exact ⟨by kernel_rfl, rfl⟩
  | ok b =>
    obtain ⟨t', p', k'⟩ := b
    rw [hx] at hres
    obtain ⟨heq, rfl⟩ := hres
    cases heq
    simp only [go_sem, W_cond, W_block, tA_eq, getT, getP, getE]
    kernel_rfl
end Go.Proofs.Ythbbollhojdjdaa
