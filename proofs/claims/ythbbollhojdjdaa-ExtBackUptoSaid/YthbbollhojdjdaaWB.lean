/- WALKS, 11: the reader: what is wrong first; so many bytes. Conditions: the place lies in the bytes. -/
import Derived.Test.YthbbollhojdjdaaWA
namespace Go.Proofs.Ythbbollhojdjdaa
open Go.Ab
set_option maxRecDepth 100000
set_option linter.unusedSimpArgs false

/-- A reader's cells. -/
def rdC (bn : Bool) (B : List UInt8) (pos : Nat) (terms e : Int) : List AV := [.sl bn 1 (bsl B) false, .int .i64 pos, .int .i64 terms, .int .i64 e]

theorem fail_does (bn : Bool) (B : List UInt8) (pos : Nat) (terms e c : Int) :
    FDoes Try.prog 54 [.ref (.arg 0) 0, .int .i64 c] [some ⟨rdC bn B pos terms e, true⟩, none] [] [some ⟨rdC bn B pos terms (if e = 0 then c else e), true⟩, none] none := by
  refine FDoes.of (E := env) ttok mixed Try.func54 (by kernel_rfl) rfl (by kernel_rfl) (rl := []) rfl (Nat.le_of_ble_eq_true rfl) false ?_
  by_cases h : e = 0
  · simp only [go_sem, W_cond, W_block, rdC, h]
  · simp only [go_sem, W_cond, W_block, rdC, h]

/-- What is taken, if all is well. -/
theorem take_ok (bn : Bool) (B : List UInt8) (pos : Nat) (terms : Int) (n : Nat) (hB : B.length ≤ 1000000000) (hn : pos + n ≤ B.length) :
    FDoes Try.prog 53 [.ref (.arg 0) 0, .int .i64 n] [some ⟨rdC bn B pos terms 0, true⟩, none] [.v (.sl bn 1 (bsl ((B.drop pos).take n)) true)] [some ⟨rdC bn B (pos + n) terms 0, true⟩, none] none := by
  refine FDoes.of (E := env) ttok mixed Try.func53 (by kernel_rfl) rfl (by kernel_rfl) (rl := [.tmp 4]) rfl (Nat.le_of_ble_eq_true rfl) false ?_
  have h1 : IntKind.i64.wrap ((B.length : Int) - (pos : Int)) = (B.length : Int) - (pos : Int) := wrap64_id _ (by omega) (by omega)
  have h2 : ¬ (n : Int) > (B.length : Int) - (pos : Int) := by omega
  have h3 : IntKind.i64.wrap ((pos : Int) + (n : Int)) = ((pos + n : Nat) : Int) := by rw [wrap64_id _ (by omega) (by omega)]; omega
  have h4 : IntKind.i64.wrap (((pos + n : Nat) : Int) - (n : Int)) = (pos : Int) := by rw [wrap64_id _ (by omega) (by omega)]; omega
  have h5 : ¬ ((pos + n : Nat) : Int) < 0 := by omega
  have h6 : pos ≤ pos + n := by omega
  have h7 : pos + n - pos = n := by omega
  have h8 : (bsl B).drop pos = bsl (B.drop pos) := by simp [bsl]
  have h9 : ∀ l : List UInt8, (bsl l).take n = bsl (l.take n) := by intro l; simp [bsl]
  simp only [go_sem, W_cond, W_block, rdC, h1, h2, h3, h4, h6, h7, h8, h9, hn]

/-- What is taken, if it is not whole, or something was wrong: nothing. -/
theorem take_bad (bn : Bool) (B : List UInt8) (pos : Nat) (terms e : Int) (n : Nat) (hB : B.length ≤ 1000000000) (hp : pos ≤ B.length) (hn : ¬ e = 0 ∨ B.length < pos + n) :
    FDoes Try.prog 53 [.ref (.arg 0) 0, .int .i64 n] [some ⟨rdC bn B pos terms e, true⟩, none] [.v (.sl true 1 [] true)] [some ⟨rdC bn B pos terms (if e = 0 then 3 else e), true⟩, none] none := by
  refine FDoes.weak (rs := [.v (.sl true 0 [] true)]) ?_ (.v (.nil _ _ _ _) .nil)
  refine FDoes.of (E := env) ttok mixed Try.func53 (by kernel_rfl) rfl (by kernel_rfl) (rl := [.tmp 4]) rfl (Nat.le_of_ble_eq_true rfl) false ?_
  have h1 : IntKind.i64.wrap ((B.length : Int) - (pos : Int)) = (B.length : Int) - (pos : Int) := wrap64_id _ (by omega) (by omega)
  by_cases he : e = 0
  · have h2 : (n : Int) > (B.length : Int) - (pos : Int) := by omega
    simp only [go_sem, W_cond, W_block, rdC, h1, h2, he]
    have hc := fail_does bn B pos terms 0 3
    try simp only [go_sem, List.length_append, rdC] at hc
    refine WCallR_does hc (by rfl) (by rfl) ?_
    clear hc
    simp only [go_sem, W_cond, W_block]
  · simp only [go_sem, W_cond, W_block, rdC, he]
    have hc := fail_does bn B pos terms e 3
    try simp only [go_sem, List.length_append, rdC, he] at hc
    refine WCallR_does hc (by rfl) (by rfl) ?_
    clear hc
    simp only [go_sem, W_cond, W_block]
end Go.Proofs.Ythbbollhojdjdaa
