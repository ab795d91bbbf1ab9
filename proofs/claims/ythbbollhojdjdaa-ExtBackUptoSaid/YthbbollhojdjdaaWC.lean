/- WALKS, 12: limb.Norm, num.made, num.Of. Conditions: lengths below the greatest. -/
import Derived.Test.YthbbollhojdjdaaWB
namespace Go.Proofs.Ythbbollhojdjdaa
open Go.Ab
set_option maxRecDepth 100000
set_option linter.unusedSimpArgs false

attribute [go_sem] Int.le_refl List.length_replicate

/-- Is a list empty? -/
def emp {α : Type} (l : List α) : Bool := l.isEmpty
@[go_sem] theorem emp_nil {α : Type} : emp ([] : List α) = true := (rfl)
@[go_sem] theorem emp_cons {α : Type} (x : α) (l : List α) : emp (x :: l) = false := (rfl)
theorem emp_false {α : Type} {l : List α} (h : ¬ l = []) : emp l = false := by cases l with | nil => exact absurd rfl h | cons => rfl
theorem emp_true {α : Type} {l : List α} (h : l = []) : emp l = true := by rw [h]; rfl
theorem emp_iff {α : Type} (l : List α) : emp l = true ↔ l = [] := by cases l <;> simp [emp]

/-- Limbs without zeroes at the top (the top one first). -/
def nrmr : List UInt32 → List UInt32
  | [] => []
  | x :: r => if x = 0 then nrmr r else x :: r
def nrm (l : List UInt32) : List UInt32 := (nrmr l.reverse).reverse

theorem nrm_snoc0 (p : List UInt32) : nrm (p ++ [0]) = nrm p := by simp [nrm, nrmr]
theorem nrm_snoc (p : List UInt32) (x : UInt32) (h : ¬ x = 0) : nrm (p ++ [x]) = p ++ [x] := by simp [nrm, nrmr, h]

theorem chunk_lce : ∀ (B : List UInt32), chunk 1 B.length (lce B) = lsl B
  | [] => rfl
  | x :: B => by
    have := chunk_lce B
    simp only [List.length_cons, lce, lsl, List.map_cons, chunk, List.take_succ_cons, List.take_zero, List.drop_succ_cons, List.drop_zero] at *
    rw [this]

theorem Norm_nil (ln f : Bool) (l : List UInt32) (hl : l.length ≤ 1000000) (hz : nrm l = []) : FDoes Try.prog 72 [.sl ln 1 (lsl l) f] [none] [.v (.sl true 1 [] false)] [none] none := by
  refine FDoes.weak (rs := [.v (.sl true 0 [] true)]) ?_ (.v (.nil _ _ _ _) .nil)
  refine FDoes.of (E := env) ttok mixed Try.func72 (by kernel_rfl) rfl (by kernel_rfl) (rl := [.tmp 2]) rfl (Nat.le_of_ble_eq_true rfl) false ?_
  simp only [go_sem, W_cond, W_block]
  refine W_loop (fun (k : Nat) st => k ≤ l.length ∧ st.tm 0 = .sl ln 1 (lsl l) f ∧ st.tm 3 = .int .i64 k ∧ nrm (l.take k) = [] ∧ st.hp (.arg 0) = none) (fun k => k) l.length ?_ ?_
  · simp only [go_sem, W_cond, W_block, List.take_length, hz]
  · rintro k tm hp clk ⟨hk, h0, h3, hb, h4⟩
    replace h0 : tm 0 = _ := h0
    replace h3 : tm 3 = _ := h3
    replace h4 : hp (.arg 0) = _ := h4
    cases k with
    | zero => simp only [go_sem, W_cond, W_block, h0, h3, h4]
    | succ k =>
      have hg : l[k]? = some l[k] := List.getElem?_eq_getElem (by omega)
      have hk0 : ((k + 1 : Nat) : Int) > 0 := by omega
      have hw1 : IntKind.i64.wrap (((k + 1 : Nat) : Int) - 1) = (k : Int) := by rw [wrap64_id _ (by omega) (by omega)]; omega
      have htk : l.take (k + 1) = l.take k ++ [l[k]] := by rw [List.take_add_one, hg]; rfl
      have hz : l[k] = 0 := by
        refine Classical.byContradiction fun hne => ?_
        rw [htk, nrm_snoc _ _ hne] at hb
        exact absurd (congrArg List.length hb) (by rw [List.length_append]; simp only [List.length_cons, List.length_nil]; omega)
      simp only [go_sem, W_cond, W_block, h0, h3, h4, hk0, hw1, lsl_get hg, u32_eq_zero, hz]
      exact ⟨k, ⟨by omega, rfl, by rw [htk, hz, nrm_snoc0] at hb; exact hb⟩, by omega⟩

theorem nrm_nil : nrm [] = [] := rfl
theorem nrm_take {l : List UInt32} {k : Nat} (hk : k < l.length) : nrm (l.take (k + 1)) = if l[k] = 0 then nrm (l.take k) else l.take (k + 1) := by
  have htk : l.take (k + 1) = l.take k ++ [l[k]] := by rw [List.take_add_one, List.getElem?_eq_getElem hk]; rfl
  split
  · rename_i h; rw [htk, h, nrm_snoc0]
  · rename_i h; rw [htk, nrm_snoc _ _ h]

theorem zeros_lce : ∀ n : Nat, (List.replicate n [AV.int .u32 0]).flatten = lce (List.replicate n 0)
  | 0 => rfl
  | n + 1 => by rw [List.replicate_succ, List.flatten_cons, zeros_lce n, List.replicate_succ]; rfl

theorem lce_take (l : List UInt32) (k : Nat) : (lce l).take k = lce (l.take k) := by simp [lce]
theorem lce_drop (l : List UInt32) (k : Nat) : (lce l).drop k = lce (l.drop k) := by simp [lce]

theorem Norm_does (ln f : Bool) (l : List UInt32) (hl : l.length ≤ 1000000) : FDoes Try.prog 72 [.sl ln 1 (lsl l) f] [none] [.v (.sl (emp (nrm l)) 1 (lsl (nrm l)) false)] [none] none := by
  by_cases hz : nrm l = []
  · have h := Norm_nil ln f l hl hz
    rw [hz]
    exact h
  · have hz' : emp (nrm l) = false := emp_false hz
    rw [hz']
    refine FDoes.of (E := env) ttok mixed Try.func72 (by kernel_rfl) rfl (by kernel_rfl) (rl := [.tmp 2]) rfl (Nat.le_of_ble_eq_true rfl) false ?_
    simp only [go_sem, W_cond, W_block]
    refine W_loop (fun (k : Nat) st => k ≤ l.length ∧ st.tm 0 = .sl ln 1 (lsl l) f ∧ st.tm 3 = .int .i64 k ∧ nrm (l.take k) = nrm l ∧ st.hp (.arg 0) = none) (fun k => k) l.length ?_ ?_
    · simp only [go_sem, W_cond, W_block, List.take_length]
    · rintro k tm hp clk ⟨hk, h0, h3, hb, h4⟩
      replace h0 : tm 0 = _ := h0
      replace h3 : tm 3 = _ := h3
      replace h4 : hp (.arg 0) = _ := h4
      cases k with
      | zero => exact absurd hb.symm hz
      | succ k =>
        have hlt : k < l.length := by omega
        have hg : l[k]? = some l[k] := List.getElem?_eq_getElem (by omega)
        have hk0 : ((k + 1 : Nat) : Int) > 0 := by omega
        have hk1 : (((k + 1 : Nat) : Int) = 0) = False := eq_false (by omega)
        have hw1 : IntKind.i64.wrap (((k + 1 : Nat) : Int) - 1) = (k : Int) := by rw [wrap64_id _ (by omega) (by omega)]; omega
        rw [nrm_take hlt] at hb
        by_cases hx : l[k] = 0
        · rw [if_pos hx] at hb
          simp only [go_sem, W_cond, W_block, h0, h3, h4, hk0, hw1, lsl_get hg, u32_eq_zero, hx]
          exact ⟨k, ⟨by omega, rfl, hb⟩, by omega⟩
        · rw [if_neg hx] at hb
          rw [← hb]
          generalize hK : k + 1 = K at *
          have c1 : (0 : Int) ≤ (K : Int) := by omega
          have c2 : (K : Int) * 4 ≤ 140737488355328 := by omega
          have c3 : min l.length K = K := by omega
          have hlen : (l.take K).length = K := by simp; omega
          have hch := chunk_lce (l.take K)
          rw [hlen] at hch
          have hd : (List.replicate K (0 : UInt32)).drop K = [] := List.drop_eq_nil_of_le (Nat.le_of_eq List.length_replicate)
          have hnil : lce [] = [] := rfl
          have htt : (l.take K).take K = l.take K := by rw [List.take_take, Nat.min_self]
          simp only [go_sem, W_cond, W_block, h0, h3, h4, hk0, hk1, hw1, lsl_get hg, u32_eq_zero, hx, c1, c2, c3, zeros_lce, lce_take, lce_drop, hlen, hch, hd, hnil, htt]

/-- A number of a sign and limbs. -/
def madeV (l : List UInt32) : Bool := decide ((nrm l).length ≤ 12)
def madeL (l : List UInt32) : List UInt32 := if (nrm l).length ≤ 12 then nrm l else []
def madeN (neg : Bool) (l : List UInt32) : Bool := neg && !emp (madeL l)

theorem nrmr_head : ∀ l : List UInt32, ∀ x r, nrmr l = x :: r → ¬ x = 0
  | [], x, r, h => by simp [nrmr] at h
  | y :: l, x, r, h => by
    rw [nrmr] at h
    split at h
    · exact nrmr_head l x r h
    · rename_i hy
      cases h; exact hy

theorem nrm_last (l : List UInt32) : ∀ x, (nrm l).getLast? = some x → ¬ x = 0 := by
  intro x h
  unfold nrm at h
  rw [List.getLast?_reverse] at h
  cases hq : nrmr l.reverse with
  | nil => rw [hq] at h; simp at h
  | cons y r =>
    rw [hq] at h
    simp at h
    subst h
    exact nrmr_head _ _ _ hq

theorem nrm_chk (neg : Bool) (l : List UInt32) : nchk (neg && !emp (nrm l)) (nrm l) = decide ((nrm l).length ≤ 12) := by
  unfold nchk
  cases h : (nrm l).getLast? with
  | none =>
    have : nrm l = [] := List.getLast?_eq_none_iff.1 h
    simp [this, emp]
  | some x =>
    have := nrm_last l x h
    simp [this]

theorem made_does (neg ln f : Bool) (l : List UInt32) (hl : l.length ≤ 1000000) : FDoes Try.prog 38 [.bool neg, .sl ln 1 (lsl l) f] [none, none] [.v (numA (madeN neg l) (emp (madeL l)) (madeL l)), .v (.bool (madeV l))] [none, none] none := by
  refine FDoes.of (E := env) ttok mixed Try.func38 (by kernel_rfl) rfl (by kernel_rfl) (rl := [.cell 4 25, .tmp 5]) rfl (Nat.le_of_ble_eq_true rfl) false ?_
  simp only [go_sem, W_cond, W_block]
  have hc := Norm_does ln f l hl
  try simp only [go_sem, List.length_append] at hc
  refine WCallR_does hc (by rfl) (by rfl) ?_
  clear hc
  have e0 : decide (((nrm l).length : Int) > 0) = !emp (nrm l) := by
    cases nrm l with
    | nil => rfl
    | cons => rw [emp_cons]; simp
  have hcall := check_does (neg && !emp (nrm l)) (emp (nrm l)) (nrm l)
  rw [nrm_chk] at hcall
  cases neg
  · simp only [go_sem, W_cond, W_block, e0]
    have hc := hcall
    try simp only [go_sem, List.length_append, numA] at hc
    refine WCallR_does hc (by rfl) (by rfl) ?_
    clear hc
    by_cases hk : (nrm l).length ≤ 12
    · simp only [go_sem, W_cond, W_block, hk, madeN, madeL, madeV, numA]
    · simp only [go_sem, W_cond, W_block, hk, madeN, madeL, madeV, numA, lsl]
  · simp only [go_sem, W_cond, W_block, e0]
    have hc := hcall
    try simp only [go_sem, List.length_append, numA] at hc
    refine WCallR_does hc (by rfl) (by rfl) ?_
    clear hc
    by_cases hk : (nrm l).length ≤ 12
    · simp only [go_sem, W_cond, W_block, hk, madeN, madeL, madeV, numA]
    · simp only [go_sem, W_cond, W_block, hk, madeN, madeL, madeV, numA, lsl]
end Go.Proofs.Ythbbollhojdjdaa
