/- WALKS, 23-25. -/
import Derived.Test.YthbbollhojdjdaaWD
/- WALKS, 23: numbers without a sign: their values; limb.Cmp, Add. Conditions: lengths below the greatest. -/
namespace Go.Proofs.Ythbbollhojdjdaa
open Go.Ab
set_option maxRecDepth 100000
set_option linter.unusedSimpArgs false
set_option linter.unusedVariables false

abbrev Bs : Nat := 4294967296

/-- A number's limbs. -/
def natL (n : Nat) : List UInt32 := if h : n = 0 then [] else UInt32.ofNat n :: natL (n / 4294967296)
termination_by n
decreasing_by omega

theorem natL_zero : natL 0 = [] := by rw [natL]; rfl
theorem natL_pos {n : Nat} (h : ¬ n = 0) : natL n = UInt32.ofNat n :: natL (n / 4294967296) := by rw [natL, dif_neg h]
theorem val_natL : ∀ (k n : Nat), n ≤ k → val (natL n) = n
  | 0, n, h => by
    have : n = 0 := by omega
    subst this
    rw [natL_zero]; rfl
  | k + 1, n, h => by
    by_cases h0 : n = 0
    · subst h0; rw [natL_zero]; rfl
    · rw [natL_pos h0, val, val_natL k _ (by omega), UInt32.toNat_ofNat']
      omega
theorem natL_val (n : Nat) : val (natL n) = n := val_natL n n (Nat.le_refl _)

theorem val_append (a b : List UInt32) : val (a ++ b) = val a + 4294967296 ^ a.length * val b := by
  induction a with
  | nil => simp [val]
  | cons x a ih =>
    have e : 4294967296 * (4294967296 ^ a.length * val b) = 4294967296 ^ a.length * 4294967296 * val b := by rw [← Nat.mul_assoc, Nat.mul_comm 4294967296 (4294967296 ^ a.length)]
    rw [List.cons_append, val, val, ih, List.length_cons, Nat.pow_succ, Nat.mul_add, e]
    omega
theorem val_lt (l : List UInt32) : val l < 4294967296 ^ l.length := by
  induction l with
  | nil => simp [val]
  | cons x l ih =>
    have := x.toNat_lt
    rw [val, List.length_cons, Nat.pow_succ]
    have h2 : 4294967296 * val l + 4294967296 ≤ 4294967296 ^ l.length * 4294967296 := by
      have : val l + 1 ≤ 4294967296 ^ l.length := ih
      have := Nat.mul_le_mul_right 4294967296 this
      omega
    omega
def lim (l : List UInt32) (i : Nat) : UInt32 := (l[i]?).getD 0
theorem val_take_succ (l : List UInt32) (i : Nat) : val (l.take (i + 1)) = val (l.take i) + 4294967296 ^ i * (lim l i).toNat := by
  rcases Nat.lt_or_ge i l.length with h | h
  · rw [List.take_add_one, List.getElem?_eq_getElem h, Option.toList_some, val_append, List.length_take, Nat.min_eq_left (by omega), lim, List.getElem?_eq_getElem h, Option.getD_some]
    simp [val]
  · rw [List.take_of_length_le (by omega), List.take_of_length_le h, lim, List.getElem?_eq_none h]
    simp
theorem val_split (l : List UInt32) (k : Nat) (h : k ≤ l.length) : val l = val (l.take k) + 4294967296 ^ k * val (l.drop k) := by
  have := val_append (l.take k) (l.drop k)
  rw [List.take_append_drop, List.length_take, Nat.min_eq_left h] at this
  exact this

theorem nrm_val : ∀ (l : List UInt32), val (nrm l) = val l := by
  have key : ∀ (k : Nat) (l : List UInt32), l.length = k → val (nrm l) = val l := by
    intro k
    induction k with
    | zero =>
      intro l h
      have : l = [] := List.eq_nil_of_length_eq_zero h
      subst this; rfl
    | succ k ih =>
      intro l h
      have hne : l ≠ [] := by intro e; subst e; simp at h
      have e : l = l.dropLast ++ [l.getLast hne] := (List.dropLast_concat_getLast hne).symm
      by_cases hx : l.getLast hne = 0
      · rw [e, hx, nrm_snoc0, ih _ (by rw [List.length_dropLast]; omega), val_append]
        simp [val]
      · rw [e, nrm_snoc _ _ hx]
  intro l
  exact key l.length l rfl

theorem natL_of : ∀ (l : List UInt32), (∀ x, l.getLast? = some x → ¬ x = 0) → natL (val l) = l
  | [], _ => natL_zero
  | x :: l, h => by
    have hl : natL (val l) = l := natL_of l (fun y hy => h y (by
      cases l with
      | nil => simp at hy
      | cons z l => simpa using hy))
    have hx := x.toNat_lt
    have h0 : ¬ val (x :: l) = 0 := by
      intro e
      rw [val] at e
      have e1 : x.toNat = 0 := by omega
      have e2 : val l = 0 := by omega
      rw [e2, natL_zero] at hl
      subst hl
      exact h x rfl (UInt32.toNat_inj.1 e1)
    rw [natL_pos h0, val]
    have e1 : (x.toNat + 4294967296 * val l) / 4294967296 = val l := by omega
    rw [e1, hl]
    congr 1
    apply UInt32.toNat_inj.1
    rw [UInt32.toNat_ofNat']
    omega
theorem nrm_natL (l : List UInt32) : nrm l = natL (val l) := by
  rw [← nrm_val l, natL_of _ (nrm_last l)]

/-- A number's limbs, as they are handed on. -/
def lstA (n : Nat) : AV := .sl (emp (natL n)) 1 (lsl (natL n)) false
theorem Norm_val (ln f : Bool) (l : List UInt32) (hl : l.length ≤ 1000000) : FDoes Try.prog 72 [.sl ln 1 (lsl l) f] [none] [.v (lstA (val l))] [none] none := by
  have := Norm_does ln f l hl
  rw [nrm_natL] at this
  exact this

theorem at_does (ln f : Bool) (l : List UInt32) (i : Nat) : FDoes Try.prog 79 [.sl ln 1 (lsl l) f, .int .i64 i] [none, none] [.v (.int .u64 (lim l i).toNat)] [none, none] none := by
  refine FDoes.of (E := env) ttok mixed Try.func79 (by kernel_rfl) rfl (by kernel_rfl) (rl := [.tmp 4]) rfl (Nat.le_of_ble_eq_true rfl) false ?_
  by_cases h : i < l.length
  · have h1 : (i : Int) < (l.length : Int) := by omega
    have hg : l[i]? = some l[i] := List.getElem?_eq_getElem h
    have h0 : ¬ (i : Int) < 0 := by omega
    have hx : l[i].toNat < 4294967296 := l[i].toNat_lt
    have hw : IntKind.u64.wrap (l[i].toNat : Int) = (l[i].toNat : Int) := by rw [wrap_u64]; omega
    simp only [go_sem, W_cond, W_block, h1, lsl_get hg, h0, hw, lim, hg]
  · have h1 : ¬ (i : Int) < (l.length : Int) := by omega
    have hg : l[i]? = none := List.getElem?_eq_none (by omega)
    simp only [go_sem, W_cond, W_block, h1, lim, hg]
    rfl

def cmpN (x y : Nat) : Int := if x < y then -1 else if x > y then 1 else 0
theorem isNaN_does (x : Int) : FDoes Try.prog 88 [.int .u64 x] [none] [.v (.bool false)] [none] none := by
  refine FDoes.of (E := env) ttok mixed Try.func88 (by kernel_rfl) rfl (by kernel_rfl) (rl := [.tmp 2]) rfl (Nat.le_of_ble_eq_true rfl) false ?_
  have : (x != x) = false := by simp
  simp only [go_sem, W_cond, W_block, this]
theorem Compare_does (x y : Nat) : FDoes Try.prog 78 [.int .u64 x, .int .u64 y] [none, none] [.v (.int .i64 (cmpN x y))] [none, none] none := by
  refine FDoes.of (E := env) ttok mixed Try.func78 (by kernel_rfl) rfl (by kernel_rfl) (rl := [.tmp 4]) rfl (Nat.le_of_ble_eq_true rfl) false ?_
  simp only [go_sem, W_cond, W_block]
  have hc := isNaN_does x
  try simp only [go_sem, List.length_append] at hc
  refine WCallR_does hc (by rfl) (by rfl) ?_
  clear hc
  simp only [go_sem, W_cond, W_block]
  have hc := isNaN_does y
  try simp only [go_sem, List.length_append] at hc
  refine WCallR_does hc (by rfl) (by rfl) ?_
  clear hc
  by_cases h1 : x < y
  · have h1' : (x : Int) < (y : Int) := by omega
    simp only [go_sem, W_cond, W_block, h1', cmpN, h1]
  · have h1' : ¬ (x : Int) < (y : Int) := by omega
    by_cases h2 : x > y
    · have h2' : (x : Int) > (y : Int) := by omega
      simp only [go_sem, W_cond, W_block, h1', h2', cmpN, h1, h2]
    · have h2' : ¬ (x : Int) > (y : Int) := by omega
      simp only [go_sem, W_cond, W_block, h1', h2', cmpN, h1, h2]

theorem val_drop (l : List UInt32) (k : Nat) : val (l.drop k) = (lim l k).toNat + 4294967296 * val (l.drop (k + 1)) := by
  rcases Nat.lt_or_ge k l.length with h | h
  · rw [List.drop_eq_getElem_cons h, val, lim, List.getElem?_eq_getElem h]
    rfl
  · rw [List.drop_eq_nil_of_le h, List.drop_eq_nil_of_le (by omega), lim, List.getElem?_eq_none h]
    rfl
theorem drop_le {a b : List UInt32} {k : Nat} : ∀ (j : Nat), j ≤ k → val (a.drop k) < val (b.drop k) → val (a.drop (k - j)) < val (b.drop (k - j))
  | 0, _, h => h
  | j + 1, hj, h => by
    have ih := drop_le j (by omega) h
    have e : k - j = (k - (j + 1)) + 1 := by omega
    rw [e] at ih
    have ha := val_drop a (k - (j + 1))
    have hb := val_drop b (k - (j + 1))
    have hx : (lim a (k - (j + 1))).toNat < 4294967296 := (lim a (k - (j + 1))).toNat_lt
    omega
theorem lt_of_drop {a b : List UInt32} {k : Nat} (h : val (a.drop k) < val (b.drop k)) : val a < val b := by
  have := drop_le (a := a) (b := b) k (Nat.le_refl _) h
  simpa using this

theorem Cmp_does (la fa lb fb : Bool) (a b : List UInt32) (ha : a.length ≤ 1000000) (hb : b.length ≤ 1000000) :
    FDoes Try.prog 44 [.sl la 1 (lsl a) fa, .sl lb 1 (lsl b) fb] [none, none] [.v (.int .i64 (cmpN (val a) (val b)))] [none, none] none := by
  refine FDoes.of (E := env) ttok mixed Try.func44 (by kernel_rfl) rfl (by kernel_rfl) (rl := [.tmp 4]) rfl (Nat.le_of_ble_eq_true rfl) false ?_
  obtain ⟨m, hm⟩ : ∃ m, m = max a.length b.length := ⟨_, rfl⟩
  have hmx : (if (b.length : Int) > (a.length : Int) then (b.length : Int) else (a.length : Int)) = (m : Int) := by
    split <;> omega
  have hw0 : IntKind.i64.wrap ((m : Int) - 1) = (m : Int) - 1 := wrap64_id _ (by omega) (by omega)
  simp only [go_sem, W_cond, W_block, foldInt, hmx, hw0]
  refine W_loop (fun (k : Nat) st => k ≤ m ∧ st.tm 0 = .sl la 1 (lsl a) fa ∧ st.tm 1 = .sl lb 1 (lsl b) fb ∧ st.tm 5 = .int .i64 ((k : Int) - 1) ∧ val (a.drop k) = val (b.drop k) ∧ st.hp (.arg 0) = none ∧ st.hp (.arg 1) = none) (fun k => k) m ?_ ?_
  · simp only [go_sem, W_cond, W_block]
    rw [List.drop_eq_nil_of_le (by omega), List.drop_eq_nil_of_le (by omega)]
  · rintro k tm hp clk ⟨hk, g0, g1, g5, hd, h0, h1⟩
    replace g0 : tm 0 = _ := g0
    replace g1 : tm 1 = _ := g1
    replace g5 : tm 5 = _ := g5
    replace h0 : hp (.arg 0) = _ := h0
    replace h1 : hp (.arg 1) = _ := h1
    cases k with
    | zero =>
      simp only [List.drop_zero] at hd
      have hc : cmpN (val a) (val b) = 0 := by rw [hd]; simp [cmpN]
      simp only [go_sem, W_cond, W_block, g0, g1, g5, h0, h1, hc]
    | succ k =>
      have e : ((k + 1 : Nat) : Int) - 1 = (k : Int) := by omega
      have hk0 : (k : Int) ≥ 0 := by omega
      have hw : IntKind.i64.wrap ((k : Int) - 1) = (k : Int) - 1 := wrap64_id _ (by omega) (by omega)
      rw [e] at g5
      simp only [go_sem, W_cond, W_block, g0, g1, g5, h0, h1, hk0]
      have hc := at_does la fa a k
      try simp only [go_sem, List.length_append] at hc
      refine WCallR_does hc (by rfl) (by rfl) ?_
      clear hc
      simp only [go_sem, W_cond, W_block, g0, g1, g5, h0, h1]
      have hc := at_does lb fb b k
      try simp only [go_sem, List.length_append] at hc
      refine WCallR_does hc (by rfl) (by rfl) ?_
      clear hc
      simp only [go_sem, W_cond, W_block, g0, g1, g5, h0, h1]
      have hc := Compare_does (lim a k).toNat (lim b k).toNat
      try simp only [go_sem, List.length_append] at hc
      refine WCallR_does hc (by rfl) (by rfl) ?_
      clear hc
      have da := val_drop a k
      have db := val_drop b k
      have hx : (lim a k).toNat < 4294967296 := (lim a k).toNat_lt
      have hy : (lim b k).toNat < 4294967296 := (lim b k).toNat_lt
      by_cases c1 : (lim a k).toNat < (lim b k).toNat
      · have hlt := lt_of_drop (a := a) (b := b) (k := k) (by omega)
        have r1 : cmpN (lim a k).toNat (lim b k).toNat = -1 := by rw [cmpN, if_pos c1]
        have r2 : cmpN (val a) (val b) = -1 := by rw [cmpN, if_pos hlt]
        simp only [go_sem, W_cond, W_block, g0, g1, g5, h0, h1, r1, r2]
      · by_cases c2 : (lim a k).toNat > (lim b k).toNat
        · have hlt := lt_of_drop (a := b) (b := a) (k := k) (by omega)
          have r1 : cmpN (lim a k).toNat (lim b k).toNat = 1 := by rw [cmpN, if_neg c1, if_pos c2]
          have r2 : cmpN (val a) (val b) = 1 := by rw [cmpN, if_neg (by omega), if_pos hlt]
          simp only [go_sem, W_cond, W_block, g0, g1, g5, h0, h1, r1, r2]
        · have r1 : cmpN (lim a k).toNat (lim b k).toNat = 0 := by rw [cmpN, if_neg c1, if_neg c2]
          simp only [go_sem, W_cond, W_block, g0, g1, g5, h0, h1, r1, hw]
          exact ⟨k, ⟨by omega, rfl, by omega⟩, by omega⟩
end Go.Proofs.Ythbbollhojdjdaa
/- WALKS, 24: limb.Add, Sub, Shl: by values. Conditions: lengths below the greatest. -/
namespace Go.Proofs.Ythbbollhojdjdaa
open Go.Ab
set_option maxRecDepth 100000
set_option linter.unusedSimpArgs false
set_option linter.unusedVariables false

theorem val_snoc (o : List UInt32) (x : UInt32) : val (o ++ [x]) = val o + 4294967296 ^ o.length * x.toNat := by rw [val_append]; simp [val]
theorem lce_snoc (o : List UInt32) (x : UInt32) : lce (o ++ [x]) = lce o ++ [.int .u32 x.toNat] := by rw [lce_append]; rfl
theorem lce_single (x : UInt32) : [AV.int .u32 x.toNat] = lce [x] := rfl

@[go_sem] theorem nf_lstA (n : Nat) : nf (lstA n) = true := rfl
@[go_sem] theorem nfs_lstA (n : Nat) (cs : List AV) : nf.nfs (lstA n :: cs) = nf.nfs cs := by rw [nf.nfs, nf_lstA, Bool.true_and]

theorem lce1 (m : Nat) : lce [UInt32.ofNat m] = [AV.int .u32 (IntKind.u32.wrap (m : Int))] := by rw [u32ofNat]; rfl

/-- A sum's limb, and what is carried. -/
theorem carry (P o s : Nat) : o + P * (s % 4294967296) + P * 4294967296 * (s / 4294967296) = o + P * s := by
  have e : P * s = P * (s % 4294967296) + P * 4294967296 * (s / 4294967296) := by
    rw [Nat.mul_assoc, ← Nat.mul_add]
    congr 1
    omega
  omega

theorem Add_does (la fa lb fb : Bool) (a b : List UInt32) (ha : a.length ≤ 1000) (hb : b.length ≤ 1000) :
    FDoes Try.prog 70 [.sl la 1 (lsl a) fa, .sl lb 1 (lsl b) fb] [none, none] [.v (lstA (val a + val b))] [none, none] none := by
  refine FDoes.of (E := env) ttok mixed Try.func70 (by kernel_rfl) rfl (by kernel_rfl) (rl := [.tmp 4]) rfl (Nat.le_of_ble_eq_true rfl) false ?_
  obtain ⟨m, hm⟩ : ∃ m, m = max a.length b.length := ⟨_, rfl⟩
  have hmx : (if (b.length : Int) > (a.length : Int) then (b.length : Int) else (a.length : Int)) = (m : Int) := by
    split <;> omega
  have hw0 : IntKind.i64.wrap ((m : Int) + 1) = ((m + 1 : Nat) : Int) := by rw [wrap64_id _ (by omega) (by omega)]; omega
  simp only [go_sem, W_cond, W_block, foldInt, hmx, hw0]
  refine W_loop (fun (p : List UInt32 × Nat) st => p.1.length ≤ m + 1 ∧ p.2 ≤ 1 ∧ val p.1 + 4294967296 ^ p.1.length * p.2 = val (a.take p.1.length) + val (b.take p.1.length) ∧
    st.tm 0 = .sl la 1 (lsl a) fa ∧ st.tm 1 = .sl lb 1 (lsl b) fb ∧ st.tm 6 = .int .u64 p.2 ∧ st.tm 13 = .int .i64 ((m + 1 : Nat) : Int) ∧ st.tm 14 = .int .i64 p.1.length ∧ st.hp (.arg 0) = none ∧ st.hp (.arg 1) = none ∧
    (p.1 = [] ∧ st.tm 5 = .sl true 0 [] true ∨ p.1 ≠ [] ∧ ∃ c, st.tm 5 = .arr (.loc 30 4 c) 0 p.1.length 1 ∧ st.hp (.loc 30 4 c) = some ⟨lce p.1, true⟩)) (fun p => m + 1 - p.1.length) ([], 0) ?_ ?_
  · simp only [go_sem, W_cond, W_block, List.length_nil, List.take_zero, val]
  · rintro ⟨o, c⟩ tm hp clk ⟨q1, q2, q3, g0, g1, g6, g13, g14, h0, h1, g5⟩
    replace g0 : tm 0 = _ := g0
    replace g1 : tm 1 = _ := g1
    replace g6 : tm 6 = _ := g6
    replace g13 : tm 13 = _ := g13
    replace g14 : tm 14 = _ := g14
    replace h0 : hp (.arg 0) = _ := h0
    replace h1 : hp (.arg 1) = _ := h1
    simp only at q1 q2 q3 g6 g14 g5
    by_cases hlt : o.length < m + 1
    · have hlt' : (o.length : Int) < ((m + 1 : Nat) : Int) := by omega
      have hw : IntKind.i64.wrap ((o.length : Int) + 1) = ((o.length + 1 : Nat) : Int) := by rw [wrap64_id _ (by omega) (by omega)]; omega
      simp only [go_sem, W_cond, W_block, g0, g1, g6, g13, g14, h0, h1, hlt']
      have hc := at_does la fa a o.length
      try simp only [go_sem, List.length_append] at hc
      refine WCallR_does hc (by rfl) (by rfl) ?_
      clear hc
      simp only [go_sem, W_cond, W_block, g0, g1, g6, g13, g14, h0, h1]
      have hc := at_does lb fb b o.length
      try simp only [go_sem, List.length_append] at hc
      refine WCallR_does hc (by rfl) (by rfl) ?_
      clear hc
      have hx : (lim a o.length).toNat < 4294967296 := (lim a o.length).toNat_lt
      have hy : (lim b o.length).toNat < 4294967296 := (lim b o.length).toNat_lt
      have va := val_take_succ a o.length
      have vb := val_take_succ b o.length
      generalize (lim a o.length).toNat = x at *
      generalize (lim b o.length).toNat = y at *
      have w1 : IntKind.u64.wrap ((x : Int) + (y : Int)) = ((x + y : Nat) : Int) := by rw [wrap_u64]; omega
      have w2 : IntKind.u64.wrap ((c : Int) + ((x + y : Nat) : Int)) = ((c + (x + y) : Nat) : Int) := by rw [wrap_u64]; omega
      have w3 : ((c + (x + y) : Nat) : Int).fdiv 4294967296 = (((c + (x + y)) / 4294967296 : Nat) : Int) := by rw [Int.fdiv_eq_ediv_of_nonneg _ (by omega)]; omega
      have hval : val (o ++ [UInt32.ofNat (c + (x + y))]) + 4294967296 ^ (o.length + 1) * ((c + (x + y)) / 4294967296) = val (a.take (o.length + 1)) + val (b.take (o.length + 1)) := by
        rw [val_snoc, UInt32.toNat_ofNat', show (2 : Nat) ^ 32 = 4294967296 by decide, Nat.pow_succ, va, vb]
        have e1 := carry (4294967296 ^ o.length) (val o) (c + (x + y))
        have e2 : 4294967296 ^ o.length * (c + (x + y)) = 4294967296 ^ o.length * c + (4294967296 ^ o.length * x + 4294967296 ^ o.length * y) := by rw [Nat.mul_add, Nat.mul_add]
        omega
      have hc' : (c + (x + y)) / 4294967296 ≤ 1 := by omega
      have hbnd : (o.length + 1) * 4 ≤ 140737488355328 := by omega
      rcases g5 with ⟨rfl, g5⟩ | ⟨hd, e, g5, g7⟩
      · replace g5 : tm 5 = _ := g5
        simp only [List.length_nil, Int.natCast_zero] at *
        simp only [go_sem, W_cond, W_block, g0, g1, g5, g6, g13, g14, h0, h1, w1, w2, w3, u32ofNat, hw]
        exact ⟨([UInt32.ofNat (c + (x + y))], (c + (x + y)) / 4294967296), ⟨by simp, hc', hval, rfl, rfl, by simp, _, rfl, by rw [lce1]; simp [IntKind.wrap_u32]⟩, by simp⟩
      · replace g5 : tm 5 = _ := g5
        replace g7 : hp (.loc 30 4 e) = _ := g7
        simp only [go_sem, W_cond, W_block, g0, g1, g5, g6, g7, g13, g14, h0, h1, w1, w2, w3, u32ofNat, hbnd, hw]
        exact ⟨(o ++ [UInt32.ofNat (c + (x + y))], (c + (x + y)) / 4294967296), ⟨by simp; omega, hc', by rw [List.length_append]; exact hval, rfl, by simp, by simp, _, by rw [List.length_append]; rfl, by simp [lce_snoc]⟩, by simp; omega⟩
    · have hlt' : ¬ (o.length : Int) < ((m + 1 : Nat) : Int) := by omega
      have hol : o.length = m + 1 := by omega
      have ta : a.take o.length = a := List.take_of_length_le (by omega)
      have tb : b.take o.length = b := List.take_of_length_le (by omega)
      rw [ta, tb] at q3
      have hc0 : c = 0 := by
        have h1 := val_lt a
        have h2 := val_lt b
        have p1 : 4294967296 ^ a.length ≤ 4294967296 ^ m := Nat.pow_le_pow_right (by omega) (by omega)
        have p2 : 4294967296 ^ b.length ≤ 4294967296 ^ m := Nat.pow_le_pow_right (by omega) (by omega)
        rw [hol, Nat.pow_succ] at q3
        match c, q2 with
        | 0, _ => rfl
        | 1, _ => omega
      subst hc0
      rw [Nat.mul_zero, Nat.add_zero] at q3
      rcases g5 with ⟨rfl, g5⟩ | ⟨hd, e, g5, g7⟩
      · simp at hol
      · replace g5 : tm 5 = _ := g5
        replace g7 : hp (.loc 30 4 e) = _ := g7
        have hch := chunk_lce o
        have htk : (lce o).take o.length = lce o := List.take_of_length_le (by rw [lce_length]; exact Nat.le_refl _)
        simp only [go_sem, W_cond, W_block, g0, g1, g5, g6, g7, g13, g14, h0, h1, hlt', hch, htk]
        have hc := Norm_val false false o (by omega)
        try simp only [go_sem, List.length_append] at hc
        refine WCallR_does hc (by rfl) (by rfl) ?_
        clear hc
        simp only [go_sem, W_cond, W_block, q3, g7]

/-- A difference's limb, and what is borrowed. -/
theorem borrow (P o A B x y c : Nat) (hx : x < 4294967296) (hy : y < 4294967296) (hc : c ≤ 1) (h : o + B = A + P * c) (v : Nat) (hv : (v : Int) = ((x : Int) - y - c) % 18446744073709551616) :
    o + P * (v % 4294967296) + (B + P * y) = A + P * x + P * 4294967296 * (v / 9223372036854775808) ∧ v / 9223372036854775808 ≤ 1 := by
  by_cases hg : y + c ≤ x
  · have hv' : v = x - y - c := by omega
    have h1 : v / 9223372036854775808 = 0 := by omega
    have h2 : v % 4294967296 = x - y - c := by omega
    rw [h1, h2, Nat.mul_zero, Nat.add_zero]
    refine ⟨?_, by omega⟩
    have : P * x = P * (x - y - c) + (P * y + P * c) := by rw [← Nat.mul_add, ← Nat.mul_add]; congr 1; omega
    omega
  · have hv' : v = 18446744073709551616 + x - y - c := by omega
    have h1 : v / 9223372036854775808 = 1 := by omega
    have h2 : v % 4294967296 = 4294967296 + x - y - c := by omega
    rw [h1, h2, Nat.mul_one]
    refine ⟨?_, by omega⟩
    have : P * x + P * 4294967296 = P * (4294967296 + x - y - c) + (P * y + P * c) := by rw [← Nat.mul_add, ← Nat.mul_add, ← Nat.mul_add]; congr 1; omega
    omega

theorem Sub_does (la fa lb fb : Bool) (a b : List UInt32) (ha : a.length ≤ 1000) (hb : b.length ≤ 1000) :
    FDoes Try.prog 71 [.sl la 1 (lsl a) fa, .sl lb 1 (lsl b) fb] [none, none] [.v (lstA (val a - val b))] [none, none] none := by
  have hcmp := Cmp_does la fa lb fb a b (by omega) (by omega)
  by_cases hlt : val a < val b
  · have h0 : val a - val b = 0 := by omega
    rw [h0]
    refine FDoes.weak (rs := [.v (.sl true 0 [] true)]) ?_ (by unfold lstA; rw [natL_zero]; exact .v (.nil _ _ _ _) .nil)
    have hc : cmpN (val a) (val b) = -1 := by rw [cmpN, if_pos hlt]
    rw [hc] at hcmp
    refine FDoes.of (E := env) ttok mixed Try.func71 (by kernel_rfl) rfl (by kernel_rfl) (rl := [.tmp 4]) rfl (Nat.le_of_ble_eq_true rfl) false ?_
    simp only [go_sem, W_cond, W_block]
    have hc := hcmp
    try simp only [go_sem, List.length_append] at hc
    refine WCallR_does hc (by rfl) (by rfl) ?_
    clear hc
    simp only [go_sem, W_cond, W_block]
  · have hc : ¬ cmpN (val a) (val b) < 0 := by
      rw [cmpN, if_neg hlt]; split <;> omega
    generalize cmpN (val a) (val b) = cc at *
    refine FDoes.of (E := env) ttok mixed Try.func71 (by kernel_rfl) rfl (by kernel_rfl) (rl := [.tmp 4]) rfl (Nat.le_of_ble_eq_true rfl) false ?_
    obtain ⟨m, hm⟩ : ∃ m, m = max a.length b.length := ⟨_, rfl⟩
    have hmx : (if (b.length : Int) > (a.length : Int) then (b.length : Int) else (a.length : Int)) = (m : Int) := by
      split <;> omega
    simp only [go_sem, W_cond, W_block]
    have hc := hcmp
    try simp only [go_sem, List.length_append] at hc
    refine WCallR_does hc (by rfl) (by rfl) ?_
    clear hc
    simp only [go_sem, W_cond, W_block, hc, foldInt, hmx]
    refine W_loop (fun (p : List UInt32 × Nat) st => p.1.length ≤ m ∧ p.2 ≤ 1 ∧ val p.1 + val (b.take p.1.length) = val (a.take p.1.length) + 4294967296 ^ p.1.length * p.2 ∧
      st.tm 0 = .sl la 1 (lsl a) fa ∧ st.tm 1 = .sl lb 1 (lsl b) fb ∧ st.tm 6 = .int .u64 p.2 ∧ st.tm 17 = .int .i64 m ∧ st.tm 18 = .int .i64 p.1.length ∧ st.hp (.arg 0) = none ∧ st.hp (.arg 1) = none ∧
      (p.1 = [] ∧ st.tm 5 = .sl true 0 [] true ∨ p.1 ≠ [] ∧ ∃ c, st.tm 5 = .arr (.loc 34 4 c) 0 p.1.length 1 ∧ st.hp (.loc 34 4 c) = some ⟨lce p.1, true⟩)) (fun p => m - p.1.length) ([], 0) ?_ ?_
    · simp only [go_sem, W_cond, W_block, List.length_nil, List.take_zero, val]
    · rintro ⟨o, c⟩ tm hp clk ⟨q1, q2, q3, g0, g1, g6, g13, g14, h0, h1, g5⟩
      replace g0 : tm 0 = _ := g0
      replace g1 : tm 1 = _ := g1
      replace g6 : tm 6 = _ := g6
      replace g13 : tm 17 = _ := g13
      replace g14 : tm 18 = _ := g14
      replace h0 : hp (.arg 0) = _ := h0
      replace h1 : hp (.arg 1) = _ := h1
      simp only at q1 q2 q3 g6 g14 g5
      by_cases hlt : o.length < m
      · have hlt' : (o.length : Int) < (m : Int) := by omega
        have hw : IntKind.i64.wrap ((o.length : Int) + 1) = ((o.length + 1 : Nat) : Int) := by rw [wrap64_id _ (by omega) (by omega)]; omega
        simp only [go_sem, W_cond, W_block, g0, g1, g6, g13, g14, h0, h1, hlt']
        have hc := at_does la fa a o.length
        try simp only [go_sem, List.length_append] at hc
        refine WCallR_does hc (by rfl) (by rfl) ?_
        clear hc
        simp only [go_sem, W_cond, W_block, g0, g1, g6, g13, g14, h0, h1]
        have hc := at_does lb fb b o.length
        try simp only [go_sem, List.length_append] at hc
        refine WCallR_does hc (by rfl) (by rfl) ?_
        clear hc
        have hx : (lim a o.length).toNat < 4294967296 := (lim a o.length).toNat_lt
        have hy : (lim b o.length).toNat < 4294967296 := (lim b o.length).toNat_lt
        have va := val_take_succ a o.length
        have vb := val_take_succ b o.length
        generalize (lim a o.length).toNat = x at *
        generalize (lim b o.length).toNat = y at *
        obtain ⟨v, hv⟩ : ∃ v : Nat, (v : Int) = ((x : Int) - y - c) % 18446744073709551616 := ⟨(((x : Int) - y - c) % 18446744073709551616).toNat, by omega⟩
        have w2 : IntKind.u64.wrap (IntKind.u64.wrap ((x : Int) - (y : Int)) - (c : Int)) = (v : Int) := by rw [wrap_u64, wrap_u64]; omega
        have w3 : (v : Int).fdiv 9223372036854775808 = ((v / 9223372036854775808 : Nat) : Int) := by rw [Int.fdiv_eq_ediv_of_nonneg _ (by omega)]; omega
        have hbor := borrow (4294967296 ^ o.length) (val o) (val (a.take o.length)) (val (b.take o.length)) x y c hx hy q2 (by omega) v hv
        have hval : val (o ++ [UInt32.ofNat v]) + val (b.take (o.length + 1)) = val (a.take (o.length + 1)) + 4294967296 ^ (o.length + 1) * (v / 9223372036854775808) := by
          rw [val_snoc, UInt32.toNat_ofNat', show (2 : Nat) ^ 32 = 4294967296 by decide, Nat.pow_succ, va, vb]
          omega
        have hbnd : (o.length + 1) * 4 ≤ 140737488355328 := by omega
        rcases g5 with ⟨rfl, g5⟩ | ⟨hd, e, g5, g7⟩
        · replace g5 : tm 5 = _ := g5
          simp only [List.length_nil, Int.natCast_zero] at *
          simp only [go_sem, W_cond, W_block, g0, g1, g5, g6, g13, g14, h0, h1, w2, w3, u32ofNat, hw]
          exact ⟨([UInt32.ofNat v], v / 9223372036854775808), ⟨by show 1 ≤ m; omega, hbor.2, hval, rfl, rfl, by simp, _, rfl, by rw [lce1]; simp [IntKind.wrap_u32]⟩, by simp; omega⟩
        · replace g5 : tm 5 = _ := g5
          replace g7 : hp (.loc 34 4 e) = _ := g7
          simp only [go_sem, W_cond, W_block, g0, g1, g5, g6, g7, g13, g14, h0, h1, w2, w3, u32ofNat, hbnd, hw]
          exact ⟨(o ++ [UInt32.ofNat v], v / 9223372036854775808), ⟨by simp; omega, hbor.2, by rw [List.length_append]; exact hval, rfl, by simp, by simp, _, by rw [List.length_append]; rfl, by simp [lce_snoc]⟩, by simp; omega⟩
      · have hlt' : ¬ (o.length : Int) < (m : Int) := by omega
        have hol : o.length = m := by omega
        have ta : a.take o.length = a := List.take_of_length_le (by omega)
        have tb : b.take o.length = b := List.take_of_length_le (by omega)
        rw [ta, tb] at q3
        have hvo := val_lt o
        have hres : val o = val a - val b := by
          match c, q2 with
          | 0, _ => omega
          | 1, _ => omega
        rcases g5 with ⟨rfl, g5⟩ | ⟨hd, e, g5, g7⟩
        · replace g5 : tm 5 = _ := g5
          simp only [List.length_nil, Int.natCast_zero] at *
          simp only [go_sem, W_cond, W_block, g0, g1, g5, g6, g13, g14, h0, h1, hlt']
          have hN : FDoes Try.prog 72 [.sl true 0 [] true] [none] [.v (lstA (val a - val b))] [none] none := by
            rw [← hres]
            exact FDoes.given (Norm_val true true [] (by simp)) (.cons (SubV.nil _ _ _ _) .nil)
          have hc := hN
          try simp only [go_sem, List.length_append] at hc
          refine WCallR_does hc (by rfl) (by rfl) ?_
          clear hc
          simp only [go_sem, W_cond, W_block]
        · replace g5 : tm 5 = _ := g5
          replace g7 : hp (.loc 34 4 e) = _ := g7
          have hch := chunk_lce o
          have htk : (lce o).take o.length = lce o := List.take_of_length_le (by rw [lce_length]; exact Nat.le_refl _)
          simp only [go_sem, W_cond, W_block, g0, g1, g5, g6, g7, g13, g14, h0, h1, hlt', hch, htk]
          have hc := Norm_val false false o (by omega)
          try simp only [go_sem, List.length_append] at hc
          refine WCallR_does hc (by rfl) (by rfl) ?_
          clear hc
          simp only [go_sem, W_cond, W_block, hres, g7]

theorem or_u64 (c x r : Nat) (hc : c < 2 ^ r) (hlt : c + x * 2 ^ r < 18446744073709551616) : bitsA .or .u64 (c : Int) ((x * 2 ^ r : Nat) : Int) = ((c + x * 2 ^ r : Nat) : Int) := by
  show IntKind.u64.wrap (((BitVec.ofInt 64 (c : Int) ||| BitVec.ofInt 64 ((x * 2 ^ r : Nat) : Int)).toNat : Nat) : Int) = _
  have : (BitVec.ofInt 64 (c : Int) ||| BitVec.ofInt 64 ((x * 2 ^ r : Nat) : Int)).toNat = c + x * 2 ^ r := by
    rw [ofInt_nat, ofInt_nat, BitVec.toNat_or, BitVec.toNat_ofNat, BitVec.toNat_ofNat, Nat.mod_eq_of_lt (by omega), Nat.mod_eq_of_lt (by omega)]
    have := Nat.two_pow_add_eq_or_of_lt (i := r) (b := c) hc x
    rw [Nat.or_comm, Nat.mul_comm x, ← this]
    omega
  rw [this, wrap_u64]
  omega

theorem Shl_does (la fa : Bool) (a : List UInt32) (n : Nat) (ha : a.length ≤ 1000) (hn : n ≤ 4096) :
    FDoes Try.prog 73 [.sl la 1 (lsl a) fa, .int .i64 n] [none, none] [.v (lstA (val a * 2 ^ n))] [none, none] none := by
  refine FDoes.of (E := env) ttok mixed Try.func73 (by kernel_rfl) rfl (by kernel_rfl) (rl := [.tmp 4]) rfl (Nat.le_of_ble_eq_true rfl) false ?_
  have hmin : (if (4096 : Int) < (n : Int) then (4096 : Int) else (n : Int)) = n := by rw [if_neg (by omega)]
  have hmax : (if (n : Int) > 0 then (n : Int) else 0) = n := by split <;> omega
  have hq : IntKind.i64.wrap ((n : Int).tdiv 32) = ((n / 32 : Nat) : Int) := by
    rw [show (n : Int).tdiv 32 = ((n / 32 : Nat) : Int) from rfl]
    exact wrap64_id _ (by omega) (by omega)
  have hr : (n : Int).tmod 32 = ((n % 32 : Nat) : Int) := rfl
  have hs1 : IntKind.i64.wrap (((n / 32 : Nat) : Int) + (a.length : Int)) = ((n / 32 + a.length : Nat) : Int) := by rw [wrap64_id _ (by omega) (by omega)]; omega
  have hs2 : IntKind.i64.wrap (((n / 32 + a.length : Nat) : Int) + 1) = ((n / 32 + a.length + 1 : Nat) : Int) := by rw [wrap64_id _ (by omega) (by omega)]; omega
  have c1 : (0 : Int) ≤ ((n / 32 : Nat) : Int) := by omega
  have c2 : ((n / 32 : Nat) : Int) ≤ ((n / 32 + a.length + 1 : Nat) : Int) := by omega
  have c3 : ((n / 32 + a.length + 1 : Nat) : Int) * 4 ≤ 140737488355328 := by omega
  have hr0 : ¬ ((n % 32 : Nat) : Int) < 0 := by omega
  have hrm : min (n % 32) 64 = n % 32 := by omega
  have hpow : 4294967296 ^ (n / 32) * 2 ^ (n % 32) = 2 ^ n := by
    rw [show (4294967296 : Nat) = 2 ^ 32 from rfl, ← Nat.pow_mul, ← Nat.pow_add]
    congr 1
    omega
  have hr31 : 2 ^ (n % 32) ≤ 2147483648 := by
    have : (2 : Nat) ^ (n % 32) ≤ 2 ^ 31 := Nat.pow_le_pow_right (by omega) (by omega)
    simpa using this
  have hz : val (List.replicate (n / 32) (0 : UInt32)) = 0 := by
    have z : ∀ K, val (List.replicate K (0 : UInt32)) = 0 := by
      intro K
      induction K with
      | zero => rfl
      | succ K ih => rw [List.replicate_succ, val, ih]; rfl
    exact z _
  simp only [go_sem, W_cond, foldInt, hmin, hmax, hq, hs1, hs2, c1, c2, c3, zeros_lce]
  refine W_cut (fun st => ∃ (o : List UInt32) (c d j e : Nat), o.length = n / 32 + a.length ∧ c < 2 ^ (n % 32) ∧ val o + 4294967296 ^ o.length * c = val a * 2 ^ n ∧ st.tm 6 = .int .u64 c ∧ st.hp (.arg 0) = none ∧ st.hp (.arg 1) = none ∧
    st.tm 5 = .arr (.loc d j e) 0 o.length 1 ∧ st.hp (.loc d j e) = some ⟨lce o, true⟩) ?_ ?_
  · simp only [go_sem, W_cond, W_block]
    refine W_loop (fun (p : List UInt32 × Nat) st => n / 32 ≤ p.1.length ∧ p.1.length ≤ n / 32 + a.length ∧ p.2 < 2 ^ (n % 32) ∧ val p.1 + 4294967296 ^ p.1.length * p.2 = val (a.take (p.1.length - n / 32)) * 2 ^ n ∧
      st.tm 1 = .int .i64 n ∧ st.tm 21 = .sl la 1 (lsl a) fa ∧ st.tm 22 = .int .i64 a.length ∧ st.tm 23 = .int .i64 ((p.1.length - n / 32 : Nat) : Int) ∧ st.tm 6 = .int .u64 p.2 ∧ st.hp (.arg 0) = none ∧ st.hp (.arg 1) = none ∧
      ∃ d j e, st.tm 5 = .arr (.loc d j e) 0 p.1.length 1 ∧ st.hp (.loc d j e) = some ⟨lce p.1, true⟩) (fun p => n / 32 + a.length - p.1.length) (List.replicate (n / 32) 0, 0) ?_ ?_
    · simp only [go_sem, W_cond, W_block, List.length_replicate, Nat.sub_self, List.take_zero, hz]
      refine ⟨by omega, Nat.two_pow_pos _, by simp [val], 20, 8, 3, rfl, by simp⟩
    · rintro ⟨o, c⟩ tm hp clk ⟨q1, q2, q3, q4, g1, g21, g22, g23, g6, h0, h1, d, j, e, g5, g7⟩
      replace g1 : tm 1 = _ := g1
      replace g21 : tm 21 = _ := g21
      replace g22 : tm 22 = _ := g22
      replace g23 : tm 23 = _ := g23
      replace g6 : tm 6 = _ := g6
      replace h0 : hp (.arg 0) = _ := h0
      replace h1 : hp (.arg 1) = _ := h1
      replace g5 : tm 5 = _ := g5
      replace g7 : hp (.loc d j e) = _ := g7
      simp only at q1 q2 q3 q4 g23 g6 g5 g7
      obtain ⟨i, hi⟩ : ∃ i, o.length = n / 32 + i := ⟨o.length - n / 32, by omega⟩
      have hi2 : o.length - n / 32 = i := by omega
      rw [hi2] at g23 q4
      by_cases hlt : i < a.length
      · have hlt' : (i : Int) < (a.length : Int) := by omega
        have hi0 : ¬ (i : Int) < 0 := by omega
        have hg : a[i]? = some a[i] := List.getElem?_eq_getElem hlt
        have hx : a[i].toNat < 4294967296 := a[i].toNat_lt
        have hlim : lim a i = a[i] := by rw [lim, hg]; rfl
        have va := val_take_succ a i
        rw [hlim] at va
        have hw : IntKind.i64.wrap ((i : Int) + 1) = ((i + 1 : Nat) : Int) := by rw [wrap64_id _ (by omega) (by omega)]; omega
        have hxr : a[i].toNat * 2 ^ (n % 32) ≤ 4294967295 * 2 ^ (n % 32) := Nat.mul_le_mul_right _ (by omega)
        have w0 : IntKind.u64.wrap (a[i].toNat : Int) = (a[i].toNat : Int) := by rw [wrap_u64]; omega
        have w1 : IntKind.u64.wrap ((a[i].toNat : Int) * 2 ^ (n % 32)) = ((a[i].toNat * 2 ^ (n % 32) : Nat) : Int) := by
          have e1 : (a[i].toNat : Int) * 2 ^ (n % 32) = ((a[i].toNat * 2 ^ (n % 32) : Nat) : Int) := by rw [Int.natCast_mul, Int.natCast_pow]; rfl
          rw [e1, wrap_u64]
          omega
        have w2 := or_u64 c a[i].toNat (n % 32) q3 (by omega)
        have w3 : ((c + a[i].toNat * 2 ^ (n % 32) : Nat) : Int).fdiv 4294967296 = (((c + a[i].toNat * 2 ^ (n % 32)) / 4294967296 : Nat) : Int) := by rw [Int.fdiv_eq_ediv_of_nonneg _ (by omega)]; omega
        have hbnd : (o.length + 1) * 4 ≤ 140737488355328 := by omega
        have hc' : (c + a[i].toNat * 2 ^ (n % 32)) / 4294967296 < 2 ^ (n % 32) := by
          apply (Nat.div_lt_iff_lt_mul (by omega)).2
          have : 2 ^ (n % 32) * 4294967296 = 2 ^ (n % 32) + 4294967295 * 2 ^ (n % 32) := by omega
          omega
        have hval : val (o ++ [UInt32.ofNat (c + a[i].toNat * 2 ^ (n % 32))]) + 4294967296 ^ (o.length + 1) * ((c + a[i].toNat * 2 ^ (n % 32)) / 4294967296) = val (a.take (i + 1)) * 2 ^ n := by
          rw [val_snoc, UInt32.toNat_ofNat', show (2 : Nat) ^ 32 = 4294967296 by decide, Nat.pow_succ, va]
          have e1 := carry (4294967296 ^ o.length) (val o) (c + a[i].toNat * 2 ^ (n % 32))
          have e4 : 4294967296 ^ o.length * (a[i].toNat * 2 ^ (n % 32)) = 4294967296 ^ i * a[i].toNat * 2 ^ n := by
            rw [hi, Nat.pow_add, ← hpow]
            simp only [Nat.mul_assoc, Nat.mul_left_comm, Nat.mul_comm]
          rw [Nat.add_mul, ← e4]
          rw [Nat.mul_add] at e1
          omega
        simp only [go_sem, W_cond, W_block, g1, g5, g6, g7, g21, g22, g23, h0, h1, hlt', hi0, lsl_get hg, w0, hr, hr0, hrm, w1, w2, w3, u32ofNat, hbnd, hw]
        refine ⟨(o ++ [UInt32.ofNat (c + a[i].toNat * 2 ^ (n % 32))], (c + a[i].toNat * 2 ^ (n % 32)) / 4294967296), ⟨by simp; omega, by simp; omega, hc', ?_, ?_, rfl, 38, 4, _, by rw [List.length_append]; rfl, by simp [lce_snoc]⟩, by simp; omega⟩
        · have e5 : (o ++ [UInt32.ofNat (c + a[i].toNat * 2 ^ (n % 32))]).length - n / 32 = i + 1 := by simp; omega
          simp only
          rw [e5, List.length_append]
          exact hval
        · have e5 : (o ++ [UInt32.ofNat (c + a[i].toNat * 2 ^ (n % 32))]).length - n / 32 = i + 1 := by simp; omega
          simp only
          rw [e5]
      · have hlt' : ¬ (i : Int) < (a.length : Int) := by omega
        have ta : a.take i = a := List.take_of_length_le (by omega)
        rw [ta] at q4
        simp only [go_sem, W_cond, W_block, g1, g5, g6, g7, g21, g22, g23, h0, h1, hlt']
        exact ⟨o, c, d, j, e, by omega, q3, q4, rfl, rfl, g7⟩
  · rintro tm hp clk ⟨o, c, d, j, e, q1, q2, q3, g6, h0, h1, g5, g7⟩
    replace g6 : tm 6 = _ := g6
    replace h0 : hp (.arg 0) = _ := h0
    replace h1 : hp (.arg 1) = _ := h1
    replace g5 : tm 5 = _ := g5
    replace g7 : hp (.loc d j e) = _ := g7
    have hbnd : (o.length + 1) * 4 ≤ 140737488355328 := by omega
    have hv : val (o ++ [UInt32.ofNat c]) = val a * 2 ^ n := by
      rw [val_snoc, UInt32.toNat_ofNat', Nat.mod_eq_of_lt (by omega)]
      exact q3
    obtain ⟨O, hO⟩ : ∃ O, O = o ++ [UInt32.ofNat c] := ⟨_, rfl⟩
    have hs : lce o ++ [AV.int .u32 ((UInt32.ofNat c).toNat : Nat)] = lce O := by rw [hO, lce_snoc]
    obtain ⟨L, hL⟩ : ∃ L, o.length + 1 = L := ⟨_, rfl⟩
    have hOL : O.length = L := by rw [hO, List.length_append, List.length_singleton, hL]
    rw [hL] at hbnd
    rw [← hO] at hv
    have hch := chunk_lce O
    rw [hOL] at hch
    have htk : (lce O).take L = lce O := List.take_of_length_le (by rw [lce_length, hOL]; exact Nat.le_refl _)
    have hll : (lce O).length = L := by rw [lce_length, hOL]
    simp only [go_sem, W_cond, W_block, g6, h0, h1, g5, g7, u32ofNat, hL, hbnd, hs, hch, htk, hll, hOL]
    have hc := Norm_val false false O (by omega)
    try simp only [go_sem, List.length_append] at hc
    refine WCallR_does hc (by rfl) (by rfl) ?_
    clear hc
    simp only [go_sem, W_cond, W_block, hv]
end Go.Proofs.Ythbbollhojdjdaa
/- WALKS, 25: num.made, Neg, add, shift up, Op, Cmp. Conditions: lengths below the greatest. -/
namespace Go.Proofs.Ythbbollhojdjdaa
open Go.Ab
set_option maxRecDepth 100000
set_option linter.unusedSimpArgs false
set_option linter.unusedVariables false

def ival (neg : Bool) (l : List UInt32) : Int := if neg = true then -(val l : Int) else val l
/-- A number by its value, if it has room; else 0. -/
def mzL (z : Int) : List UInt32 := if (natL z.natAbs).length ≤ 12 then natL z.natAbs else []
def mzN (z : Int) : Bool := decide (z < 0) && !emp (mzL z)
def mzV (z : Int) : Bool := decide ((natL z.natAbs).length ≤ 12)
def mzA (z : Int) : AV := numA (mzN z) (emp (mzL z)) (mzL z)

theorem emp_natL (n : Nat) : emp (natL n) = decide (n = 0) := by
  by_cases h : n = 0
  · subst h; rw [natL_zero]; rfl
  · rw [natL_pos h, emp_cons]; simp [h]
theorem nrm_nat (n : Nat) : nrm (natL n) = natL n := by rw [nrm_natL, natL_val]
theorem madeL_val (l : List UInt32) : madeL l = mzL (val l) := by
  unfold madeL mzL
  rw [nrm_natL]
  rfl
theorem mzL_neg (z : Int) : mzL (-z) = mzL z := by unfold mzL; rw [Int.natAbs_neg]
theorem made_list (neg ln f : Bool) (l : List UInt32) (hl : l.length ≤ 1000000) : FDoes Try.prog 38 [.bool neg, .sl ln 1 (lsl l) f] [none, none] [.v (mzA (ival neg l)), .v (.bool (mzV (ival neg l)))] [none, none] none := by
  have h := made_does neg ln f l hl
  have e1 : madeL l = mzL (ival neg l) := by
    rw [madeL_val]; unfold ival
    split
    · rw [mzL_neg]
    · rfl
  have e2 : madeV l = mzV (ival neg l) := by
    unfold madeV mzV ival
    rw [nrm_natL]
    split
    · rw [Int.natAbs_neg]; rfl
    · rfl
  have e3 : madeN neg l = mzN (ival neg l) := by
    unfold madeN mzN
    rw [e1]
    cases neg with
    | false =>
      have : decide (ival false l < 0) = false := by simp [ival]
      rw [this]
    | true =>
      by_cases h0 : val l = 0
      · have : mzL (ival true l) = [] := by
          unfold mzL ival
          rw [if_pos rfl, h0]
          split
          · exact natL_zero
          · rfl
        rw [this]
        simp [emp_nil]
      · have : decide (ival true l < 0) = true := by simp [ival]; omega
        rw [this]
  rw [e1, e2, e3] at h
  exact h
theorem made_nat (neg : Bool) (n : Nat) (hn : (natL n).length ≤ 1000000) : FDoes Try.prog 38 [.bool neg, lstA n] [none, none] [.v (mzA (if neg = true then -(n : Int) else n)), .v (.bool (mzV (if neg = true then -(n : Int) else n)))] [none, none] none := by
  have h := made_list neg (emp (natL n)) false (natL n) hn
  rw [ival, natL_val] at h
  exact h

theorem natL_len (n k : Nat) (h : n < 4294967296 ^ k) : (natL n).length ≤ k := by
  induction k generalizing n with
  | zero => have : n = 0 := by simpa using h
            subst this; rw [natL_zero]; exact Nat.le_refl _
  | succ k ih =>
    by_cases h0 : n = 0
    · subst h0; rw [natL_zero]; exact Nat.zero_le _
    · rw [natL_pos h0, List.length_cons]
      have := ih (n / 4294967296) (by
        rw [Nat.pow_succ] at h
        exact (Nat.div_lt_iff_lt_mul (by omega)).2 h)
      omega

theorem mz_chk (z : Int) : nchk (mzN z) (mzL z) = true := by
  have hlen : (mzL z).length ≤ 12 := by
    unfold mzL
    split
    · assumption
    · simp
  unfold nchk
  rw [Bool.and_eq_true]
  refine ⟨by simpa using hlen, ?_⟩
  cases h : (mzL z).getLast? with
  | none =>
    have : mzL z = [] := List.getLast?_eq_none_iff.1 h
    simp only [mzN, this, emp_nil]
    simp
  | some x =>
    have hx : ¬ x = 0 := by
      unfold mzL at h
      split at h
      · rw [← nrm_nat] at h
        exact nrm_last _ x h
      · simp at h
    simp [hx]

theorem ival_mz {z : Int} (h : mzV z = true) : ival (mzN z) (mzL z) = z := by
  have hl : (natL z.natAbs).length ≤ 12 := by simpa [mzV] using h
  have e : mzL z = natL z.natAbs := by rw [mzL, if_pos hl]
  unfold ival mzN
  rw [e, natL_val, emp_natL]
  by_cases h0 : z < 0
  · have : ¬ z.natAbs = 0 := by omega
    simp [h0, this]
    omega
  · simp [h0]
    omega
theorem mz_ival {neg : Bool} {l : List UInt32} (h : nchk neg l = true) : mzL (ival neg l) = l ∧ mzN (ival neg l) = neg ∧ mzV (ival neg l) = true := by
  have hl : mzL (ival neg l) = l := by
    have e : mzL (ival neg l) = mzL (val l) := by
      unfold ival
      split
      · rw [mzL_neg]
      · rfl
    rw [e, mzL, show ((val l : Nat) : Int).natAbs = val l from rfl, natL_of l (nchk_top' h), if_pos (nchk_len h)]
  refine ⟨hl, ?_, ?_⟩
  · unfold mzN
    rw [hl]
    cases hq : l with
    | nil =>
      have : neg = false := by
        subst hq
        unfold nchk at h
        cases neg
        · rfl
        · simp at h
      subst this
      simp [emp_nil]
    | cons x r =>
      have hv0 : ¬ val l = 0 := by
        intro e
        have := natL_of l (nchk_top' h)
        rw [e, natL_zero] at this
        rw [← this] at hq; cases hq
      rw [← hq, emp_false (by rw [hq]; simp)]
      cases neg <;> simp [ival] <;> omega
  · have e : (ival neg l).natAbs = val l := by unfold ival; split <;> omega
    unfold mzV
    rw [e, natL_of l (nchk_top' h)]
    simpa using nchk_len h
where
  nchk_top' {neg : Bool} {l : List UInt32} (h : nchk neg l = true) : ∀ x, l.getLast? = some x → ¬ x = 0 := by
    intro x hx
    unfold nchk at h
    rw [hx, Bool.and_eq_true] at h
    simpa using h.2

/-- A number that may be, as itself. -/
theorem of_ok {neg ln : Bool} {l : List UInt32} (h : nchk neg l = true) : FDoes Try.prog 36 [numA neg ln l] [none] [.v (numA neg ln l)] [none] none := by
  have := of_does neg ln l
  rw [h] at this
  exact this

theorem Neg_does (neg ln : Bool) (l : List UInt32) (h : nchk neg l = true) : FDoes Try.prog 22 [numA neg ln l] [none] [.v (mzA (-(ival neg l)))] [none] none := by
  have hl := nchk_len h
  have e : ival (!neg) l = -(ival neg l) := by cases neg <;> simp [ival]
  refine FDoes.of (E := env) ttok mixed Try.func22 (by kernel_rfl) rfl (by kernel_rfl) (rl := [.cell 2 25]) rfl (Nat.le_of_ble_eq_true rfl) false ?_
  simp only [go_sem, W_cond, W_block, numA]
  have hc := of_ok (ln := ln) h
  try simp only [go_sem, List.length_append, numA] at hc
  refine WCallR_does hc (by rfl) (by rfl) ?_
  clear hc
  simp only [go_sem, W_cond, W_block]
  have hm := made_list (!neg) ln false l (by omega)
  rw [e] at hm
  have hc := hm
  try simp only [go_sem, List.length_append, mzA, numA] at hc
  refine WCallR_does hc (by rfl) (by rfl) ?_
  clear hc
  simp only [go_sem, W_cond, W_block, mzA, numA]

theorem add_does (na la nb lb : Bool) (a b : List UInt32) (ha : a.length ≤ 12) (hb : b.length ≤ 12) :
    FDoes Try.prog 37 [numA na la a, numA nb lb b] [none, none] [.v (mzA (ival na a + ival nb b)), .v (.bool (mzV (ival na a + ival nb b)))] [none, none] none := by
  have hA := Nat.lt_of_lt_of_le (val_lt a) (Nat.pow_le_pow_right (n := 4294967296) (by omega) ha)
  have hB := Nat.lt_of_lt_of_le (val_lt b) (Nat.pow_le_pow_right (n := 4294967296) (by omega) hb)
  have hbig : ∀ n, n ≤ val a + val b → (natL n).length ≤ 1000000 := by
    intro n hn
    have := natL_len n 13 (by rw [Nat.pow_succ]; omega)
    omega
  have hcmp := Cmp_does la false lb false a b (by omega) (by omega)
  refine FDoes.of (E := env) ttok mixed Try.func37 (by kernel_rfl) rfl (by kernel_rfl) (rl := [.cell 4 25, .tmp 5]) rfl (Nat.le_of_ble_eq_true rfl) false ?_
  simp only [go_sem, W_cond, W_block, numA]
  have hc := hcmp
  try simp only [go_sem, List.length_append] at hc
  refine WCallR_does hc (by rfl) (by rfl) ?_
  clear hc
  by_cases hs : na = nb
  · subst hs
    have hm := made_nat na (val a + val b) (hbig _ (by omega))
    have e : (if na = true then -((val a + val b : Nat) : Int) else ((val a + val b : Nat) : Int)) = ival na a + ival na b := by
      unfold ival; split <;> omega
    rw [e] at hm
    simp only [go_sem, W_cond, W_block, numA]
    have hc := Add_does la false lb false a b (by omega) (by omega)
    try simp only [go_sem, List.length_append] at hc
    refine WCallDR_does hc (by rfl) (by rfl) ?_
    clear hc
    simp only [go_sem, lstA]
    have hc := hm
    try simp only [go_sem, List.length_append, lstA, mzA, numA] at hc
    refine WCallDR_does hc (by rfl) (by rfl) ?_
    clear hc
    simp only [go_sem, W_cond, W_block, mzA, numA]
    kernel_rfl
  · have hs' : (na == nb) = false := by simpa using hs
    by_cases hc : val a < val b
    · have hcm : cmpN (val a) (val b) = -1 := by rw [cmpN, if_pos hc]
      have hm := made_nat nb (val b - val a) (hbig _ (by omega))
      have e : (if nb = true then -((val b - val a : Nat) : Int) else ((val b - val a : Nat) : Int)) = ival na a + ival nb b := by
        unfold ival; cases na <;> cases nb <;> simp at hs ⊢ <;> omega
      rw [e] at hm
      simp only [go_sem, W_cond, W_block, numA, hs', hcm]
      have hc := Sub_does lb false la false b a (by omega) (by omega)
      try simp only [go_sem, List.length_append] at hc
      refine WCallDR_does hc (by rfl) (by rfl) ?_
      clear hc
      simp only [go_sem, lstA]
      have hc := hm
      try simp only [go_sem, List.length_append, lstA, mzA, numA] at hc
      refine WCallDR_does hc (by rfl) (by rfl) ?_
      clear hc
      simp only [go_sem, W_cond, W_block, mzA, numA]
      kernel_rfl
    · have hcm : ¬ cmpN (val a) (val b) < 0 := by rw [cmpN, if_neg hc]; split <;> omega
      have hm := made_nat na (val a - val b) (hbig _ (by omega))
      have e : (if na = true then -((val a - val b : Nat) : Int) else ((val a - val b : Nat) : Int)) = ival na a + ival nb b := by
        unfold ival; cases na <;> cases nb <;> simp at hs ⊢ <;> omega
      rw [e] at hm
      simp only [go_sem, W_cond, W_block, numA, hs', hcm]
      have hc := Sub_does la false lb false a b (by omega) (by omega)
      try simp only [go_sem, List.length_append] at hc
      refine WCallDR_does hc (by rfl) (by rfl) ?_
      clear hc
      simp only [go_sem, lstA]
      have hc := hm
      try simp only [go_sem, List.length_append, lstA, mzA, numA] at hc
      refine WCallDR_does hc (by rfl) (by rfl) ?_
      clear hc
      simp only [go_sem, W_cond, W_block, mzA, numA]
      kernel_rfl
end Go.Proofs.Ythbbollhojdjdaa
