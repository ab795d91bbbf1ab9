/- PLAIN LAWS, 3-5. -/
import Derived.Test.YthbbollhojdjdaaXA
import Derived.Test.YthbbollhojdjdaaQ2
/- PLAIN LAWS, 3: a number's bytes, read again. Conditions: none. -/
namespace Go.Proofs.Ythbbollhojdjdaa
open Go.Ab
set_option maxRecDepth 100000
set_option linter.unusedSimpArgs false
set_option linter.unusedVariables false

/-- Bytes as a number, the lowest first. -/
def leV : List UInt8 → Nat
  | [] => 0
  | x :: r => x.toNat + 256 * leV r
theorem leV_snoc (l : List UInt8) (x : UInt8) : leV (l ++ [x]) = leV l + 256 ^ l.length * x.toNat := by
  induction l with
  | nil => simp [leV]
  | cons y l ih =>
    rw [List.cons_append, leV, leV, ih, List.length_cons, Nat.pow_succ, Nat.mul_add, ← Nat.mul_assoc, Nat.mul_comm 256 (256 ^ l.length)]
    omega
theorem leV_lt (l : List UInt8) : leV l < 256 ^ l.length := by
  induction l with
  | nil => simp [leV]
  | cons x l ih =>
    have := x.toNat_lt
    rw [leV, List.length_cons, Nat.pow_succ]
    omega

theorem val_set (l : List UInt32) (j : Nat) (y : UInt32) (h : j < l.length) : val (l.set j y) + 4294967296 ^ j * (lim l j).toNat = val l + 4294967296 ^ j * y.toNat := by
  have e1 := val_split l j (by omega)
  have e2 := val_split (l.set j y) j (by simp; omega)
  rw [List.take_set_of_le (Nat.le_refl j)] at e2
  have d1 := val_drop l j
  have d2 := val_drop (l.set j y) j
  have e3 : lim (l.set j y) j = y := by simp [lim, h]
  have e4 : (l.set j y).drop (j + 1) = l.drop (j + 1) := by rw [List.drop_set_of_lt (by omega)]
  rw [e3, e4] at d2
  rw [d1] at e1
  rw [d2] at e2
  rw [e1, e2, Nat.mul_add, Nat.mul_add]
  omega

theorem lim_le (l : List UInt32) (j : Nat) : 4294967296 ^ j * (lim l j).toNat ≤ val l := by
  rcases Nat.lt_or_ge j l.length with h | h
  · have e1 := val_split l j (by omega)
    have d1 := val_drop l j
    rw [d1, Nat.mul_add] at e1
    omega
  · rw [lim, List.getElem?_eq_none h]; simp

theorem pow_256 (i : Nat) : 256 ^ i = 4294967296 ^ (i / 4) * 256 ^ (i % 4) := by
  have : (4294967296 : Nat) = 256 ^ 4 := by decide
  rw [this, ← Nat.pow_mul, ← Nat.pow_add]
  congr 1
  omega

theorem bigX_val (i : Nat) (x : UInt8) : (bigX i x).toNat = 256 ^ (i % 4) * x.toNat := by
  have hx := x.toNat_lt
  have h4 : i % 4 < 4 := Nat.mod_lt _ (by omega)
  have e : (2 : Nat) ^ (8 * (i % 4)) = 256 ^ (i % 4) := by rw [Nat.pow_mul]
  rw [bigX, UInt32.toNat_ofNat', e, Nat.mul_comm]
  apply Nat.mod_eq_of_lt
  have h : i % 4 = 0 ∨ i % 4 = 1 ∨ i % 4 = 2 ∨ i % 4 = 3 := by omega
  rcases h with h | h | h | h <;> rw [h] <;> omega

theorem or_disjoint (a b : UInt32) (k : Nat) (ha : a.toNat < 2 ^ k) (hb : 2 ^ k ∣ b.toNat) : (a ||| b).toNat = a.toNat + b.toNat := by
  obtain ⟨c, hc⟩ := hb
  rw [UInt32.toNat_or, hc, Nat.or_comm, ← Nat.two_pow_add_eq_or_of_lt ha]
  omega

theorem big_val : ∀ (n : Nat) (bs : List UInt8) (K : Nat), bs.length = n → n ≤ 4 * K → val (bigF 0 bs (List.replicate K 0)) = leV bs
  | 0, bs, K, hn, _ => by
    have : bs = [] := List.eq_nil_of_length_eq_zero hn
    subst this
    rw [bigF, leV]
    have z : ∀ K, val (List.replicate K (0 : UInt32)) = 0 := by
      intro K
      induction K with
      | zero => rfl
      | succ K ih => rw [List.replicate_succ, val, ih]; rfl
    exact z K
  | n + 1, bs, K, hn, hK => by
    have hne : bs ≠ [] := by intro e; subst e; simp at hn
    have e : bs = bs.dropLast ++ [bs.getLast hne] := (List.dropLast_concat_getLast hne).symm
    have hl : bs.dropLast.length = n := by rw [List.length_dropLast]; omega
    generalize bs.dropLast = p at *
    generalize bs.getLast hne = x at *
    subst e
    have ih := big_val n p K hl (by omega)
    have hfl : (bigF 0 p (List.replicate K 0)).length = K := by rw [bigF_length]; simp
    rw [bigF_snoc, Nat.zero_add, hl]
    generalize bigF 0 p (List.replicate K 0) = L at *
    have hj : n / 4 < L.length := by omega
    have hvs := val_set L (n / 4) ((L[n / 4]?).getD 0 ||| bigX n x) hj
    have hle := lim_le L (n / 4)
    have hlt := leV_lt p
    rw [hl] at hlt
    have hlim : (lim L (n / 4)).toNat < 256 ^ (n % 4) := by
      have h1 : 4294967296 ^ (n / 4) * (lim L (n / 4)).toNat < 4294967296 ^ (n / 4) * 256 ^ (n % 4) := by rw [← pow_256]; omega
      exact Nat.lt_of_mul_lt_mul_left h1
    have hor : ((L[n / 4]?).getD 0 ||| bigX n x).toNat = (lim L (n / 4)).toNat + (bigX n x).toNat := by
      refine or_disjoint _ _ (8 * (n % 4)) ?_ ?_
      · rw [Nat.pow_mul]; exact hlim
      · rw [bigX_val, Nat.pow_mul]
        exact Nat.dvd_mul_right _ _
    rw [hor, bigX_val, Nat.mul_add, ← Nat.mul_assoc, ← pow_256, ih] at hvs
    rw [leV_snoc, hl]
    omega

theorem byteAt_val (l : List UInt32) (i : Nat) : (byteAt l i).toNat = val l / 256 ^ i % 256 := by
  have hg : l.getD (i / 4) 0 = lim l (i / 4) := by rw [lim, List.getD_eq_getElem?_getD]
  unfold byteAt u8i
  rw [hg]
  have hx := (lim l (i / 4)).toNat_lt
  have hcast : ((lim l (i / 4)).toNat : Int).fdiv (2 ^ (8 * (i % 4))) = (((lim l (i / 4)).toNat / 256 ^ (i % 4) : Nat) : Int) := by
    have e : (2 : Int) ^ (8 * (i % 4)) = ((256 ^ (i % 4) : Nat) : Int) := by
      rw [show (256 : Nat) = 2 ^ 8 from rfl, ← Nat.pow_mul, Int.natCast_pow]; rfl
    rw [e, Int.fdiv_eq_ediv_of_nonneg _ (Int.natCast_nonneg _)]
    rfl
  rw [hcast, IntKind.wrap_u8, UInt8.toNat_ofNat']
  have e1 : (((lim l (i / 4)).toNat / 256 ^ (i % 4) : Nat) : Int) % 256 = (((lim l (i / 4)).toNat / 256 ^ (i % 4) % 256 : Nat) : Int) := by omega
  rw [e1, Int.toNat_natCast, Nat.mod_eq_of_lt (by omega), pow_256 i, ← Nat.div_div_eq_div_mul]
  have hq : val l / 4294967296 ^ (i / 4) = (lim l (i / 4)).toNat + 4294967296 * val (l.drop (i / 4 + 1)) := by
    rcases Nat.lt_or_ge (i / 4) l.length with h | h
    · rw [val_split l (i / 4) (by omega), ← val_drop]
      have hl : val (l.take (i / 4)) < 4294967296 ^ (i / 4) := by
        have := val_lt (l.take (i / 4))
        rwa [List.length_take, Nat.min_eq_left (by omega)] at this
      rw [Nat.add_mul_div_left _ _ (Nat.two_pow_pos 32 |> fun _ => Nat.pow_pos (by omega)), Nat.div_eq_of_lt hl, Nat.zero_add]
    · have hl : val l < 4294967296 ^ (i / 4) := Nat.lt_of_lt_of_le (val_lt l) (Nat.pow_le_pow_right (by omega) h)
      rw [Nat.div_eq_of_lt hl, lim, List.getElem?_eq_none h, List.drop_eq_nil_of_le (by omega)]
      rfl
  rw [hq]
  generalize (lim l (i / 4)).toNat = x at *
  generalize val (l.drop (i / 4 + 1)) = y at *
  have h : i % 4 = 0 ∨ i % 4 = 1 ∨ i % 4 = 2 ∨ i % 4 = 3 := by omega
  rcases h with h | h | h | h <;> rw [h] <;> omega

theorem bytes_val (l : List UInt32) : ∀ k, leV ((List.range k).map (byteAt l)) = val l % 256 ^ k
  | 0 => by simp [leV, Nat.mod_one]
  | k + 1 => by
    rw [List.range_succ, List.map_append, List.map_singleton, leV_snoc, bytes_val l k, List.length_map, List.length_range, byteAt_val, Nat.pow_succ, Nat.mod_mul]

/-! ### how many bits -/

theorem len32_bound (x : Nat) : x < 2 ^ len32 x ∧ (¬ x = 0 → 2 ^ (len32 x - 1) ≤ x) := by
  unfold len32
  split
  · rename_i h; subst h; simp
  · rename_i h
    exact ⟨Nat.lt_log2_self, fun _ => by simpa using Nat.log2_self_le h⟩

theorem blen_bound : ∀ (n : Nat) (l : List UInt32), l.length = n → val l < 2 ^ blen l ∧ (¬ val l = 0 → 2 ^ (blen l - 1) ≤ val l)
  | 0, l, hn => by
    have : l = [] := List.eq_nil_of_length_eq_zero hn
    subst this
    simp [val, blen, lenr]
  | n + 1, l, hn => by
    have hne : l ≠ [] := by intro e; subst e; simp at hn
    have e : l = l.dropLast ++ [l.getLast hne] := (List.dropLast_concat_getLast hne).symm
    have hl : l.dropLast.length = n := by rw [List.length_dropLast]; omega
    generalize l.dropLast = p at *
    generalize l.getLast hne = x at *
    subst e
    have ih := blen_bound n p hl
    rw [val_append, hl]
    by_cases hx : x = 0
    · subst hx
      have e2 : blen (p ++ [0]) = blen p := by simp [blen, lenr]
      rw [e2]
      simpa [val] using ih
    · rw [blen_snoc _ _ hx, hl]
      obtain ⟨b1, b2⟩ := len32_bound x.toNat
      have hx0 : ¬ x.toNat = 0 := fun h => hx (UInt32.toNat_inj.1 h)
      have b3 := b2 hx0
      have hp := val_lt p
      rw [hl] at hp
      have e3 : (4294967296 : Nat) ^ n = 2 ^ (32 * n) := by rw [Nat.pow_mul]
      have hp2 : val p < 2 ^ (32 * n) := by rw [← e3]; exact hp
      have hv : val [x] = x.toNat := by simp [val]
      have hpos : 1 ≤ len32 x.toNat := by unfold len32; rw [if_neg hx0]; omega
      rw [hv, e3] at *
      constructor
      · rw [Nat.pow_add]
        have : 2 ^ (32 * n) * (x.toNat + 1) ≤ 2 ^ (32 * n) * 2 ^ len32 x.toNat := Nat.mul_le_mul_left _ b1
        rw [Nat.mul_add] at this
        omega
      · intro _
        rw [show 32 * n + len32 x.toNat - 1 = 32 * n + (len32 x.toNat - 1) by omega, Nat.pow_add]
        have := Nat.mul_le_mul_left (2 ^ (32 * n)) b3
        omega

/-- Limbs that are as many, of one value. -/
theorem val_inj : ∀ (a b : List UInt32), a.length = b.length → val a = val b → a = b
  | [], [], _, _ => rfl
  | x :: a, y :: b, hl, h => by
    have hx := x.toNat_lt
    have hy := y.toNat_lt
    rw [val, val] at h
    have e1 : x.toNat = y.toNat := by omega
    have e2 : val a = val b := by omega
    rw [UInt32.toNat_inj.1 e1, val_inj a b (by simpa using hl) e2]
  | [], _ :: _, hl, _ => by simp at hl
  | _ :: _, [], hl, _ => by simp at hl

theorem nchk_top {neg : Bool} {l : List UInt32} (h : nchk neg l = true) : ∀ x, l.getLast? = some x → ¬ x = 0 := by
  intro x hx
  unfold nchk at h
  rw [hx, Bool.and_eq_true] at h
  simpa using h.2

theorem val_ge {neg : Bool} {l : List UInt32} (h : nchk neg l = true) (hne : l ≠ []) : 4294967296 ^ (l.length - 1) ≤ val l := by
  have htop := nchk_top h (l.getLast hne) (List.getLast?_eq_some_getLast hne)
  have h1 := lim_le l (l.length - 1)
  have h2 : lim l (l.length - 1) = l.getLast hne := by rw [lim, last_get hne]; rfl
  rw [h2] at h1
  have h3 : 1 ≤ (l.getLast hne).toNat := by
    have : ¬ (l.getLast hne).toNat = 0 := fun e => htop (UInt32.toNat_inj.1 e)
    omega
  have := Nat.mul_le_mul_left (4294967296 ^ (l.length - 1)) h3
  omega

/-- A great number's bytes are its limbs again. -/
theorem bigL_bytes {neg : Bool} {l : List UInt32} (h : nchk neg l = true) (hne : l ≠ []) : bigL ((List.range (bigK neg l)).map (byteAt l)) = l := by
  have hb : nbits neg l = blen l := by rw [nbits, if_pos h]
  have hbl := blen_bound l.length l rfl
  have hk : bigK neg l = (blen l + 7) / 8 := by rw [bigK, hb]
  have hge := val_ge h hne
  have hle : blen l ≤ 32 * l.length := by
    have := (nbits_le neg l).1
    rwa [hb] at this
  have hpos : 0 < l.length := List.length_pos_iff.2 hne
  have hlow : 32 * (l.length - 1) < blen l := by
    apply Classical.byContradiction
    intro hc
    have h1 : 2 ^ blen l ≤ 2 ^ (32 * (l.length - 1)) := Nat.pow_le_pow_right (by omega) (by omega)
    have e3 : (4294967296 : Nat) ^ (l.length - 1) = 2 ^ (32 * (l.length - 1)) := by rw [Nat.pow_mul]
    rw [e3] at hge
    omega
  have hlen : (((List.range (bigK neg l)).map (byteAt l)).length + 3) / 4 = l.length := by rw [List.length_map, List.length_range, hk]; omega
  unfold bigL
  rw [hlen]
  refine val_inj _ _ (by rw [bigF_length]; simp) ?_
  rw [big_val _ _ _ rfl (by rw [List.length_map, List.length_range, hk]; omega), bytes_val]
  apply Nat.mod_eq_of_lt
  have e4 : (256 : Nat) ^ bigK neg l = 2 ^ (8 * bigK neg l) := by rw [Nat.pow_mul]
  rw [e4]
  exact Nat.lt_of_lt_of_le hbl.1 (Nat.pow_le_pow_right (by omega) (by rw [hk]; omega))

/-- A number that is not too great is of its int. -/
theorem ofL_nint {neg : Bool} {l : List UInt32} (h : nchk neg l = true) {v : Int} (hv : nint neg l = some v) : ofL v = l ∧ ofN v = neg ∧ -9223372036854775808 ≤ v ∧ v ≤ 9223372036854775807 := by
  unfold nint at hv
  rw [if_pos h] at hv
  have hlen : ¬ 2 < l.length := by
    intro hc
    rw [if_pos hc] at hv; cases hv
  rw [if_neg hlen] at hv
  have hab : v.natAbs = val l ∧ (neg = true → v ≤ 0) ∧ (neg = false → 0 ≤ v) ∧ -9223372036854775808 ≤ v ∧ v ≤ 9223372036854775807 := by
    cases neg with
    | true =>
      rw [if_pos rfl] at hv
      split at hv
      · cases hv; refine ⟨by omega, fun _ => by omega, fun h => (by cases h), by omega, by omega⟩
      · cases hv
    | false =>
      rw [if_neg (by decide)] at hv
      split at hv
      · cases hv; refine ⟨by omega, fun h => (by cases h), fun _ => by omega, by omega, by omega⟩
      · cases hv
  obtain ⟨h1, h2, h3, h4, h5⟩ := hab
  have hl2 : val (limbs2 v.natAbs) = v.natAbs := by
    simp only [limbs2, val]
    rw [UInt32.toNat_ofNat', UInt32.toNat_ofNat']
    omega
  have hn : nrm (limbs2 v.natAbs) = l := by rw [nrm_natL, hl2, h1, natL_of l (nchk_top h)]
  have hL : ofL v = l := by
    rw [ofL, madeL, hn, if_pos (nchk_len h)]
  refine ⟨hL, ?_, h4, h5⟩
  have hm : madeL (limbs2 v.natAbs) = l := hL
  rw [ofN, madeN, hm]
  cases hl : l with
  | nil =>
    have : neg = false := by
      subst hl
      unfold nchk at h
      cases neg
      · rfl
      · simp at h
    subst this
    simp [emp_nil]
  | cons x r =>
    have hv0 : ¬ val l = 0 := by
      intro e
      have := natL_of l (nchk_top h)
      rw [e, natL_zero] at this
      rw [← this] at hl; cases hl
    have hd : decide (x :: r = ([] : List UInt32)) = false := by simp
    cases neg with
    | true => have := h2 rfl; simp [emp_cons]; omega
    | false => have := h3 rfl; simp [emp_cons]; omega
end Go.Proofs.Ythbbollhojdjdaa
/- PLAIN LAWS, 4: what is put is got; cut it is short. Conditions: none. -/
namespace Go.Proofs.Ythbbollhojdjdaa
open Go.Ab
set_option maxRecDepth 100000
set_option linter.unusedSimpArgs false
set_option linter.unusedVariables false

mutual
/-- A term, as it is read: what has no parts is nil. -/
def canon : T → T
  | .mk kind neg _ l s n _ k => .mk kind neg (emp l) l s n (emp k) (canons k)
def canons : List T → List T
  | [] => []
  | t :: k => canon t :: canons k
end
theorem canons_map : ∀ k : List T, canons k = k.map canon
  | [] => by rw [canons]; rfl
  | t :: k => by rw [canons, canons_map k]; rfl
theorem canon_eq (t : T) : canon t = .mk t.kind t.neg (emp t.l) t.l t.s t.n (emp t.k) (canons t.k) := by cases t; rw [canon]; rfl
theorem canon_kind (t : T) : (canon t).kind = t.kind := by rw [canon_eq]; rfl

theorem canon_own (t : T) : ownB (canon t) = ownB t := by
  rw [canon_eq]
  simp only [ownB, ownI, ownS, ownK, T.kind, T.neg, T.l, T.s, T.n, T.k, canons_map, List.length_map]
  cases t; rfl

mutual
theorem enc_canon : ∀ t : T, enc (canon t) = enc t ∧ cntT (canon t) = cntT t ∧ hdsT (canon t) = hdsT t ∧ tlT (canon t) = tlT t
  | .mk kind neg ln l s n kn k => by
    obtain ⟨a1, a2, a3, a4, a5⟩ := enc_canons k
    rw [canon]
    refine ⟨?_, ?_, ?_, ?_⟩
    · rw [enc, enc, a1, a2, a3, a4, a5]
    · rw [cntT, cntT, a3]
    · rw [hdsT, hdsT, a4]
    · rw [tlT, tlT, a1, a2, a5]
theorem enc_canons : ∀ k : List T, encKs (canons k) = encKs k ∧ (canons k).length = k.length ∧ cntK (canons k) = cntK k ∧ hdsK (canons k) = hdsK k ∧ tlK (canons k) = tlK k
  | [] => by rw [canons]; exact ⟨rfl, rfl, rfl, rfl, rfl⟩
  | [x] => by
    have hx := enc_canon x
    rw [canons, canons]
    exact ⟨by simp only [encKs, hx.1], rfl, by rw [cntK, cntK] <;> simp, by rw [hdsK, hdsK] <;> simp, by rw [tlK, tlK] <;> simp⟩
  | [x, y] => by
    have hx := enc_canon x
    have hy := enc_canon y
    rw [canons, canons, canons]
    exact ⟨by simp only [encKs, hx.1, hy.1], rfl, by rw [cntK, cntK, hy.2.1], by rw [hdsK, hdsK, hx.1, hy.2.2.1], by rw [tlK, tlK, hy.2.2.2]⟩
  | x :: y :: z :: k => by
    have hx := enc_canon x
    have hk := enc_canons (y :: z :: k)
    rw [canons, encKs, encKs, hx.1, hk.1, List.length_cons, List.length_cons, hk.2.1]
    rw [canons, canons] at *
    exact ⟨rfl, rfl, by rw [cntK, cntK] <;> simp, by rw [hdsK, hdsK] <;> simp, by rw [tlK, tlK] <;> simp⟩
end

/-! ### bytes that agree with others -/

/-- From pos on the first n bytes are E's. -/
def Ag (B : List UInt8) (pos : Nat) (E : List UInt8) : Prop := ∀ i x, E[i]? = some x → B[pos + i]? = some x
theorem Ag.fits {B : List UInt8} {pos : Nat} {E : List UInt8} (h : Ag B pos E) : pos + E.length ≤ B.length ∨ E = [] := by
  cases E with
  | nil => exact .inr rfl
  | cons x E =>
    have hl : ((x :: E)[E.length]?).isSome = true := by rw [List.getElem?_eq_getElem (by simp)]; rfl
    obtain ⟨y, hy⟩ := Option.isSome_iff_exists.1 hl
    have := h _ _ hy
    have := (List.getElem?_eq_some_iff.1 this).1
    exact .inl (by simp only [List.length_cons]; omega)
theorem Ag.eq {B : List UInt8} {pos : Nat} {E : List UInt8} (h : Ag B pos E) : slc B pos E.length = E := by
  apply List.ext_getElem?
  intro i
  unfold slc
  rw [List.getElem?_take]
  split
  · rename_i hi
    rw [List.getElem?_drop, List.getElem?_eq_getElem hi]
    exact h i _ (List.getElem?_eq_getElem hi)
  · rename_i hi
    rw [List.getElem?_eq_none (by omega)]
theorem Ag.left {B : List UInt8} {pos : Nat} {E F : List UInt8} (h : Ag B pos (E ++ F)) : Ag B pos E := fun i x hx => h i x (by
  have hi := (List.getElem?_eq_some_iff.1 hx).1
  rw [List.getElem?_append_left hi]; exact hx)
theorem Ag.right {B : List UInt8} {pos : Nat} {E F : List UInt8} (h : Ag B pos (E ++ F)) : Ag B (pos + E.length) F := fun i x hx => by
  have := h (E.length + i) x (by rw [List.getElem?_append_right (by omega), show E.length + i - E.length = i by omega]; exact hx)
  rwa [← Nat.add_assoc] at this
theorem Ag.head {B : List UInt8} {pos : Nat} {x : UInt8} {E : List UInt8} (h : Ag B pos (x :: E)) : B[pos]? = some x := h 0 x rfl
theorem Ag.tail {B : List UInt8} {pos : Nat} {x : UInt8} {E : List UInt8} (h : Ag B pos (x :: E)) : Ag B (pos + 1) E := fun i y hy => by
  have := h (i + 1) y (by simpa using hy)
  rwa [show pos + (i + 1) = pos + 1 + i by omega] at this
theorem Ag.of_slc {B : List UInt8} {pos : Nat} {E : List UInt8} (h : slc B pos E.length = E) : Ag B pos E := fun i x hx => by
  have hi := (List.getElem?_eq_some_iff.1 hx).1
  rw [← h] at hx
  unfold slc at hx
  rw [List.getElem?_take, if_pos hi, List.getElem?_drop] at hx
  exact hx

theorem rMany_ok {B : List UInt8} {pos k : Nat} {least most : Int} {E : List UInt8} (h : Ag B pos E) (hl : E.length = k) (hk : 0 < k) (h1 : least ≤ beV E) (h2 : (beV E : Int) ≤ most) : rMany B k least most pos = .ok (beV E) := by
  have hs := h.eq
  rw [hl] at hs
  have hle : pos + k ≤ B.length := by
    rcases h.fits with h' | h'
    · omega
    · subst h'; simp at hl; omega
  unfold rMany
  rw [if_pos hle, hs, if_neg (by omega)]
theorem rTake_all {B : List UInt8} {pos : Nat} {E : List UInt8} (h : Ag B pos E) (hp : pos ≤ B.length) : rTake B E.length pos = .ok E := by
  have hle : pos + E.length ≤ B.length := by
    rcases h.fits with h' | h'
    · exact h'
    · subst h'; simpa using hp
  unfold rTake
  rw [if_pos hle, h.eq]

theorem beV_one (v : Nat) (h : v < 256) : beV [u8i (v : Nat)] = v := by
  simp only [beV, List.foldl_cons, List.foldl_nil, u8i]
  rw [IntKind.wrap_u8, UInt8.toNat_ofNat']
  omega

theorem int_canon {t : T} (h1 : t.kind = 1) (ho : ownB t = true) : canon t = .mk 1 t.neg (emp t.l) t.l [] 0 true [] ∧ nchk t.neg t.l = true := by
  simp only [ownB, ownI, ownS, ownK, h1, Bool.and_eq_true, decide_eq_true_eq, if_true] at ho
  have hs : t.s = [] := by simpa using ho.2.1.1.2
  have hk : t.k = [] := List.eq_nil_of_length_eq_zero (by simpa using ho.2.1.2)
  have hn : t.n = 0 := ho.2.2
  refine ⟨?_, ho.2.1.1.1⟩
  rw [canon_eq, h1, hs, hk, hn, canons]
  rfl

theorem be4_i32 (v : Int) (h1 : -2147483648 ≤ v) (h2 : v ≤ 2147483647) : i32v (beV (be4 v)) = v := by
  obtain ⟨w, hw⟩ : ∃ w : Nat, (w : Int) = v % 4294967296 := ⟨(v % 4294967296).toNat, by omega⟩
  have hwl : w < 4294967296 := by omega
  have e : be4 v = be4 (w : Int) := by
    have f : ∀ d : Int, 0 < d → d ∣ 16777216 → u8i (v.fdiv d) = u8i ((w : Int).fdiv d) := by
      intro d hd hdd
      unfold u8i
      rw [IntKind.wrap_u8, IntKind.wrap_u8, Int.fdiv_eq_ediv_of_nonneg _ (by omega), Int.fdiv_eq_ediv_of_nonneg _ (by omega)]
      congr 2
      obtain ⟨c, hc⟩ := hdd
      have hv : v = (w : Int) + d * (c * 256 * (v / 4294967296)) := by
        have e1 := Int.emod_add_mul_ediv v 4294967296
        have e2 : d * (c * 256 * (v / 4294967296)) = 4294967296 * (v / 4294967296) := by
          rw [show d * (c * 256 * (v / 4294967296)) = (d * c) * 256 * (v / 4294967296) by simp only [Int.mul_assoc], ← hc]
          omega
        omega
      rw [hv, Int.add_mul_ediv_left _ _ (by omega)]
      have : c * 256 * (((w : Int) + d * (c * 256 * (v / 4294967296))) / 4294967296) = 256 * (c * (((w : Int) + d * (c * 256 * (v / 4294967296))) / 4294967296)) := by
        rw [Int.mul_comm c 256, Int.mul_assoc]
      have e5 : (w : Int) / d + c * 256 * (v / 4294967296) = (w : Int) / d + 256 * (c * (v / 4294967296)) := by rw [Int.mul_comm c 256, Int.mul_assoc]
      rw [e5]
      omega
    unfold be4
    have e1 := f 16777216 (by omega) ⟨1, by omega⟩
    have e2 := f 65536 (by omega) ⟨256, by omega⟩
    have e3 := f 256 (by omega) ⟨65536, by omega⟩
    have e4 := f 1 (by omega) ⟨16777216, by omega⟩
    rw [Int.fdiv_eq_ediv_of_nonneg _ (by omega : (0 : Int) ≤ 1), Int.fdiv_eq_ediv_of_nonneg _ (by omega : (0 : Int) ≤ 1), Int.ediv_one, Int.ediv_one] at e4
    rw [e1, e2, e3, e4]
  rw [e, beV_be4 w hwl]
  unfold i32v
  split <;> omega

theorem u8sign (b : Bool) : decide ((if b = true then (1 : UInt8) else 0) = 1) = b := by cases b <;> decide

theorem numT_canon {neg : Bool} {l : List UInt32} (h : nchk neg l = true) {v : Int} (hv : nint neg l = some v) : numT v = .mk 1 neg (emp l) l [] 0 true [] := by
  obtain ⟨h1, h2, _, _⟩ := ofL_nint h hv
  rw [numT, h1, h2]

/-- A leaf's reading, ahead of the question whether it is put so. -/
theorem rPre_leaf_ok {t : T} {d : Int} (ho : okT t d = true) (h4 : ¬ t.kind = 4) (h5 : ¬ t.kind = 5) {B : List UInt8} {pos : Nat} (hag : Ag B pos (enc t)) :
    ∃ tag E, enc t = tag :: E ∧ isPlain tag = true ∧ rPre B tag (pos + 1) = .ok (canon t, pos + (enc t).length) := by
  have hown := okT_own ho
  have hkind : 1 ≤ t.kind ∧ t.kind ≤ 6 := by
    simp only [ownB, Bool.and_eq_true, decide_eq_true_eq] at hown
    exact hown.1
  by_cases k1 : t.kind = 1
  · obtain ⟨hc, hn⟩ := int_canon k1 hown
    rw [enc_int k1] at hag ⊢
    rw [hc]
    unfold encNum at hag ⊢
    by_cases c1 : (nint t.neg t.l).isSome = true ∧ 0 ≤ (nint t.neg t.l).getD 0 ∧ (nint t.neg t.l).getD 0 ≤ 255
    · rw [if_pos c1] at hag ⊢
      obtain ⟨v, hv⟩ := Option.isSome_iff_exists.1 c1.1
      rw [hv] at c1 hag ⊢
      simp only [Option.getD_some] at c1 hag ⊢
      obtain ⟨w, hw⟩ : ∃ w : Nat, (w : Int) = v := ⟨v.toNat, by omega⟩
      have ht := rTake_all hag.tail (by have := (List.getElem?_eq_some_iff.1 hag.head).1; omega)
      refine ⟨97, _, rfl, rfl, ?_⟩
      rw [rPre, if_pos rfl]
      simp only [List.length_cons, List.length_nil] at ht
      rw [ht]
      simp only
      rw [← hw, beV_one w (by omega), hw, numT_canon hn hv]
      simp
    · rw [if_neg c1] at hag ⊢
      by_cases c2 : (nint t.neg t.l).isSome = true ∧ -2147483648 ≤ (nint t.neg t.l).getD 0 ∧ (nint t.neg t.l).getD 0 ≤ 2147483647
      · rw [if_pos c2] at hag ⊢
        obtain ⟨v, hv⟩ := Option.isSome_iff_exists.1 c2.1
        rw [hv] at c2 hag ⊢
        simp only [Option.getD_some] at c2 hag ⊢
        have ht := rTake_all hag.tail (by have := (List.getElem?_eq_some_iff.1 hag.head).1; omega)
        refine ⟨98, _, rfl, rfl, ?_⟩
        rw [rPre, if_neg (by decide), if_pos rfl]
        rw [be4_length] at ht
        rw [ht]
        simp only
        rw [be4_i32 v c2.2.1 c2.2.2, numT_canon hn hv]
        simp [be4_length]
      · rw [if_neg c2] at hag ⊢
        have hlne : t.l ≠ [] := by
          intro e
          rw [e] at c1 hn
          have : nint t.neg ([] : List UInt32) = some 0 := by
            have hneg : t.neg = false := by
              unfold nchk at hn
              cases hh : t.neg
              · rfl
              · rw [hh] at hn; simp at hn
            rw [hneg]; decide
          rw [this] at c1
          exact c1 (by decide)
        have hb := (nbits_le t.neg t.l).2
        have hk48 : bigK t.neg t.l ≤ 48 := by unfold bigK; omega
        have hk1 : 1 ≤ bigK t.neg t.l := by
          have hbb : nbits t.neg t.l = blen t.l := by rw [nbits, if_pos hn]
          have hbl := blen_bound t.l.length t.l rfl
          have hge := val_ge hn hlne
          have : ¬ blen t.l = 0 := by
            intro e
            rw [e] at hbl
            have : 0 < 4294967296 ^ (t.l.length - 1) := Nat.pow_pos (by omega)
            omega
          unfold bigK
          omega
        unfold encBig bigHead at hag ⊢
        generalize hbs : (List.range (bigK t.neg t.l)).map (byteAt t.l) = bs at *
        have hbsl : bs.length = bigK t.neg t.l := by rw [← hbs]; simp
        simp only [List.cons_append, List.nil_append] at hag ⊢
        have h2 := hag.tail
        have h3 := h2.tail
        have hm := rMany_ok (E := [u8i (bigK t.neg t.l : Nat)]) (k := 1) (least := 1) (most := 48) (Ag.left (F := (if t.neg = true then 1 else 0) :: bs) h2) rfl (by omega) (by rw [beV_one _ (by omega)]; omega) (by rw [beV_one _ (by omega)]; omega)
        rw [beV_one _ (by omega)] at hm
        have ht := rTake_all h3 (by have := (List.getElem?_eq_some_iff.1 h2.head).1; omega)
        rw [List.length_cons, hbsl, Nat.add_comm (bigK t.neg t.l) 1] at ht
        refine ⟨110, _, rfl, rfl, ?_⟩
        rw [rPre, if_neg (by decide), if_neg (by decide), if_pos rfl, hm]
        simp only
        rw [ht]
        simp only
        rw [bigT, u8sign, ← hbs, bigL_bytes hn hlne, emp_false hlne]
        simp
        omega
  · by_cases k2 : t.kind = 2
    · have h := hown
      simp only [ownB, ownI, ownS, ownK, k2, Bool.and_eq_true, decide_eq_true_eq, if_true, if_false, nameB] at h
      have hz : t.neg = false ∧ t.l = [] := by
        have := h.2.1.1.1
        simp [zeroB] at this
        exact this
      have hk : t.k = [] := List.eq_nil_of_length_eq_zero (by simpa using h.2.1.2)
      have hlen : 1 ≤ t.s.length ∧ t.s.length ≤ 40 := by
        have := h.2.1.1.2
        simp at this
        exact this.1
      have hc : canon t = atomT t.s := by rw [canon_eq, k2, hz.1, hz.2, hk, h.2.2, canons]; rfl
      rw [hc]
      rw [enc_atom k2] at hag ⊢
      have h2 := hag.tail
      have hm := rMany_ok (E := [u8i (t.s.length : Nat)]) (k := 1) (least := 1) (most := 40) (Ag.left (F := t.s) h2) rfl (by omega) (by rw [beV_one _ (by omega)]; omega) (by rw [beV_one _ (by omega)]; omega)
      rw [beV_one _ (by omega)] at hm
      have ht := rTake_all h2.tail (by have := (List.getElem?_eq_some_iff.1 h2.head).1; omega)
      refine ⟨119, _, rfl, rfl, ?_⟩
      rw [rPre, if_neg (by decide), if_neg (by decide), if_neg (by decide), if_pos rfl, hm]
      simp only
      rw [ht]
      simp
      omega
    · by_cases k3 : t.kind = 3
      · have h := hown
        simp only [ownB, ownI, ownS, ownK, k3, Bool.and_eq_true, decide_eq_true_eq, if_true, if_false] at h
        have hz : t.neg = false ∧ t.l = [] := by
          have := h.2.1.1.1
          simp [zeroB] at this
          exact this
        have hs : t.s = [] := by simpa using h.2.1.1.2
        have hk : t.k = [] := List.eq_nil_of_length_eq_zero (by simpa using h.2.1.2)
        have hc : canon t = nilT := by rw [canon_eq, k3, hz.1, hz.2, hs, hk, h.2.2, canons]; rfl
        rw [hc]
        rw [enc_nil k3] at hag ⊢
        refine ⟨106, _, rfl, rfl, ?_⟩
        rw [rPre, if_neg (by decide), if_neg (by decide), if_neg (by decide), if_neg (by decide), if_neg (by decide)]
        simp
      · have k6 : t.kind = 6 := by omega
        have h := hown
        simp only [ownB, ownI, ownS, ownK, k6, Bool.and_eq_true, decide_eq_true_eq, if_true, if_false] at h
        have hz : t.neg = false ∧ t.l = [] := by
          have := h.2.1.1.1
          simp [zeroB] at this
          exact this
        have hk : t.k = [] := List.eq_nil_of_length_eq_zero (by simpa using h.2.1.2)
        have hlen : t.s.length ≤ 400 := by simpa using h.2.1.1.2
        have hc : canon t = binT t.s := by rw [canon_eq, k6, hz.1, hz.2, hk, h.2.2, canons]; rfl
        rw [hc]
        rw [enc_bin k1 k2 k3 h4 h5] at hag ⊢
        have h2 := hag.tail
        have hm := rMany_ok (E := be4 (t.s.length : Nat)) (k := 4) (least := 0) (most := 400) h2.left (be4_length _) (by omega) (by rw [beV_be4 _ (by omega)]; omega) (by rw [beV_be4 _ (by omega)]; omega)
        rw [beV_be4 _ (by omega)] at hm
        have h3 := h2.right
        rw [be4_length] at h3
        have hle : pos + 1 + 4 ≤ B.length := (rMany_le hm).1
        have ht := rTake_all h3 hle
        refine ⟨109, _, rfl, rfl, ?_⟩
        rw [rPre, if_neg (by decide), if_neg (by decide), if_neg (by decide), if_neg (by decide), if_pos rfl, hm]
        simp only
        rw [ht]
        simp [be4_length]
        omega
end Go.Proofs.Ythbbollhojdjdaa
/- PLAIN LAWS, 5: what is put is got, whole. Conditions: none. -/
namespace Go.Proofs.Ythbbollhojdjdaa
open Go.Ab
set_option maxRecDepth 100000
set_option linter.unusedSimpArgs false
set_option linter.unusedVariables false

mutual
theorem okT_canon : ∀ (t : T) (d : Int), okT (canon t) d = okT t d ∧ tsz (canon t) = tsz t
  | .mk kind neg ln l s n kn k, d => by
    have ho := canon_own (.mk kind neg ln l s n kn k)
    obtain ⟨h1, _, h3⟩ := okKs_canons k d
    obtain ⟨_, h2, _⟩ := okKs_canons k (d + 1)
    rw [canon] at ho ⊢
    refine ⟨?_, by rw [tsz, tsz, h3]⟩
    rw [okT, okT, ho, h1, h2]
theorem okKs_canons : ∀ (k : List T) (d : Int), okC (canons k) d = okC k d ∧ okKs (canons k) d = okKs k d ∧ tszs (canons k) = tszs k
  | [], d => by rw [canons]; exact ⟨rfl, rfl, rfl⟩
  | [x], d => by
    have hx := okT_canon x d
    rw [canons, canons]
    exact ⟨by simp only [okC], by simp only [okKs, hx.1], by simp only [tszs, hx.2]⟩
  | [x, y], d => by
    have hx := okT_canon x d
    have hx1 := okT_canon x (d + 1)
    have hy := okT_canon y d
    rw [canons, canons, canons]
    exact ⟨by simp only [okC, hx1.1, hy.1], by simp only [okKs, hx.1, hy.1], by simp only [tszs, hx.2, hy.2]⟩
  | x :: y :: z :: k, d => by
    have hx := okT_canon x d
    have hk := okKs_canons (y :: z :: k) d
    refine ⟨?_, ?_, ?_⟩
    · rw [canons, canons, canons]; simp only [okC]
    · rw [canons, okKs, okKs, hx.1, hk.2.1]
    · rw [canons, tszs, tszs, hx.2, hk.2.2]
end

theorem leaf_k {t : T} (ho : ownB t = true) (h4 : ¬ t.kind = 4) (h5 : ¬ t.kind = 5) : t.k = [] := by
  simp only [ownB, ownK, h4, h5, Bool.and_eq_true, if_false] at ho
  exact List.eq_nil_of_length_eq_zero (by simpa using ho.2.1.2)

theorem rTerm_leaf {t : T} {d : Int} (ho : okT t d = true) (h4 : ¬ t.kind = 4) (h5 : ¬ t.kind = 5) {B : List UInt8} {pos : Nat} (hag : Ag B pos (enc t))
    {m : Nat} {deep terms : Int} (h1 : terms + 1 ≤ 2000) (h2 : deep ≤ 60) : rTerm B (m + 1) deep pos terms = .ok (canon t, pos + (enc t).length, terms + 1) := by
  obtain ⟨tag, E, he, hp, hr⟩ := rPre_leaf_ok ho h4 h5 hag
  have hb : B[pos]? = some tag := by rw [he] at hag; exact hag.head
  have hk := leaf_k (okT_own ho) h4 h5
  have hc : chkB (canon t) = true := (chkB_ok _).2 ⟨by rw [(okT_canon t 1).1]; exact okT_leaf hk ho (by omega), by rw [(okT_canon t 1).2, tsz_leaf hk]; omega⟩
  rw [rTerm, hb]
  simp only
  rw [if_neg (by omega), if_pos hp, rPlain, hr, rFin, if_pos ⟨hc, by rw [(enc_canon t).1, Nat.add_sub_cancel_left, hag.eq]⟩]

/-- A number's term. -/
def numNT (neg : Bool) (l : List UInt32) : T := .mk 1 neg (emp l) l [] 0 true []
theorem numNT_own {neg : Bool} {l : List UInt32} (h : nchk neg l = true) : ownB (numNT neg l) = true := by
  simp only [ownB, ownI, ownS, ownK, numNT, T.kind, T.neg, T.l, T.s, T.k, T.n, h]
  simp
theorem numNT_ok {neg : Bool} {l : List UInt32} (h : nchk neg l = true) {d : Int} (hd : d ≤ 60) : okT (numNT neg l) d = true := by
  have ho := numNT_own h
  unfold numNT at ho ⊢
  rw [okT, ho]
  simp [okKs, hd]
theorem numNT_chk {neg : Bool} {l : List UInt32} (h : nchk neg l = true) : chkB (numNT neg l) = true :=
  (chkB_ok _).2 ⟨numNT_ok h (by omega), by rw [tsz_leaf rfl]; omega⟩
theorem numNT_canon (neg : Bool) (l : List UInt32) : canon (numNT neg l) = numNT neg l := by
  unfold numNT
  rw [canon, canons]
  rfl
theorem numNT_get {neg : Bool} {l : List UInt32} (h : nchk neg l = true) : rGet (encNum neg l) 0 = .ok (numNT neg l, (encNum neg l).length, 1) := by
  have he : enc (numNT neg l) = encNum neg l := enc_int rfl
  have hag : Ag (encNum neg l) 0 (enc (numNT neg l)) := by
    rw [he]
    intro i x hx
    rwa [Nat.zero_add]
  have := rTerm_leaf (m := (encNum neg l).length) (deep := 1) (terms := 0) (numNT_ok h (d := 1) (by omega)) (show ¬ (1 : Int) = 4 by decide) (show ¬ (1 : Int) = 5 by decide) hag (by omega) (by omega)
  rw [numNT_canon, he, Nat.zero_add] at this
  exact this
theorem encBig_len (neg : Bool) (l : List UInt32) : (encBig neg l).length = 3 + bigK neg l := by
  simp [encBig, bigHead]
  omega
end Go.Proofs.Ythbbollhojdjdaa
