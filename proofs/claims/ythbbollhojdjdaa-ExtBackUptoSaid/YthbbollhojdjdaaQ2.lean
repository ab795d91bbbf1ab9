/- PLAIN LAWS, 2: lists and tuples as long and as deep as may be, read. Conditions: none. -/
import Derived.Test.YthbbollhojdjdaaQ1
namespace Go.Proofs.Ythbbollhojdjdaa
open Go.Ab
set_option maxRecDepth 100000
set_option linter.unusedSimpArgs false
set_option linter.unusedVariables false

theorem beV_be4 (k : Nat) (h : k < 4294967296) : beV (be4 (k : Nat)) = k := by
  have f : ∀ d : Nat, 0 < d → (UInt8.ofNat (IntKind.u8.wrap ((k : Int).fdiv (d : Nat))).toNat).toNat = k / d % 256 := by
    intro d hd
    rw [Int.fdiv_eq_ediv_of_nonneg _ (by omega), IntKind.wrap_u8, UInt8.toNat_ofNat']
    have : ((k : Int) / (d : Nat) % 256).toNat = k / d % 256 := by omega
    rw [this]; omega
  have e1 := f 16777216 (by omega)
  have e2 := f 65536 (by omega)
  have e3 := f 256 (by omega)
  have e4 := f 1 (by omega)
  rw [show (k : Int).fdiv ((1 : Nat) : Int) = k by rw [Int.fdiv_eq_ediv_of_nonneg _ (by omega)]; omega] at e4
  have e1' : (UInt8.ofNat (IntKind.u8.wrap ((k : Int).fdiv 16777216)).toNat).toNat = k / 16777216 % 256 := e1
  have e2' : (UInt8.ofNat (IntKind.u8.wrap ((k : Int).fdiv 65536)).toNat).toNat = k / 65536 % 256 := e2
  have e3' : (UInt8.ofNat (IntKind.u8.wrap ((k : Int).fdiv 256)).toNat).toNat = k / 256 % 256 := e3
  simp only [beV, be4, u8i, List.foldl_cons, List.foldl_nil, e1', e2', e3', e4]
  omega

theorem chkB_nil : chkB nilT = true := by kernel_rfl
theorem enc_nilT : enc nilT = [106] := by kernel_rfl

/-- Nil, read. -/
theorem rTerm_nil {B : List UInt8} {m : Nat} {deep : Int} {pos : Nat} {terms : Int} (h : B[pos]? = some 106) :
    rTerm B (m + 1) deep pos terms = if terms + 1 > 2000 ∨ deep > 60 then .error 4 else .ok (nilT, pos + 1, terms + 1) := by
  rw [rTerm, h]
  simp only
  split
  · rfl
  · rw [if_pos (by rfl), rPlain, rPre]
    rw [if_neg (by decide), if_neg (by decide), if_neg (by decide), if_neg (by decide), if_neg (by decide), rFin]
    rw [if_pos ⟨chkB_nil, by rw [enc_nilT, show pos + 1 - pos = 1 by omega, slc_one h]⟩]

theorem rSome_nils {B : List UInt8} {m : Nat} {deep : Int} (hd : deep ≤ 60) : ∀ (n pos : Nat) (terms : Int), (∀ i, i < n → B[pos + i]? = some 106) → terms ≤ 2000 →
    rSome (rTerm B (m + 1) deep) n pos terms = if terms + n ≤ 2000 then .ok (List.replicate n nilT, pos + n, terms + n) else .error 4
  | 0, pos, terms, h, ht => by
    rw [rSome, if_pos (by omega)]
    simp
  | n + 1, pos, terms, h, ht => by
    have h0 := h 0 (by omega)
    rw [Nat.add_zero] at h0
    rw [rSome, rTerm_nil h0]
    by_cases h1 : terms + 1 > 2000
    · rw [if_pos (.inl h1), if_neg (by omega)]
    · rw [if_neg (by omega)]
      simp only
      rw [rSome_nils hd n (pos + 1) (terms + 1) (fun i hi => by have := h (i + 1) (by omega); rwa [show pos + (i + 1) = pos + 1 + i by omega] at this) (by omega)]
      by_cases h2 : terms + 1 + n ≤ 2000
      · rw [if_pos h2, if_pos (by omega)]
        simp only [List.replicate_succ]
        congr 3
        · omega
        · omega
      · rw [if_neg h2, if_neg (by omega)]

def longB (k : Nat) : List UInt8 := 108 :: (be4 (k : Nat) ++ List.replicate (k + 1) 106)
theorem longB_len (k : Nat) : (longB k).length = k + 6 := by simp [longB, be4_length]; omega
theorem longB_at (k i : Nat) (h : i < k + 1) : (longB k)[5 + i]? = some 106 := by
  unfold longB
  rw [show 5 + i = (4 + i) + 1 by omega, List.getElem?_cons_succ, List.getElem?_append_right (by rw [be4_length]; omega), be4_length, show 4 + i - 4 = i by omega, List.getElem?_replicate, if_pos h]

theorem long_get (k : Nat) (hk : k < 1100) : getE (rGet (longB k) 0) = if k = 0 ∨ 2 * k + 1 > 2000 then 4 else 0 := by
  have h0 : (longB k)[0]? = some 108 := rfl
  have hs : slc (longB k) 1 4 = be4 (k : Nat) := by
    unfold slc longB
    rw [List.drop_succ_cons, List.drop_zero, List.take_left' (by rw [be4_length])]
  have hlen := longB_len k
  unfold rGet
  rw [show (longB k).length + 1 = (k + 5) + 1 + 1 by omega, rTerm, h0]
  simp only
  rw [if_neg (by omega), if_neg (by decide), if_pos trivial]
  unfold rMany
  rw [if_pos (by omega), show 0 + 1 = 1 from rfl, hs, beV_be4 k (by omega)]
  by_cases hk0 : k = 0
  · subst hk0
    rw [if_pos (.inl (by decide)), if_pos (.inl rfl)]
    rfl
  · rw [if_neg (by omega)]
    simp only
    rw [show 0 + 5 = 5 from rfl, rSome_nils (by omega) k 5 _ (fun i hi => longB_at k i (by omega)) (by omega)]
    by_cases h1 : 0 + (k : Int) + k ≤ 2000
    · rw [if_pos h1]
      simp only
      rw [rTerm_nil (longB_at k k (by omega))]
      by_cases h2 : 0 + (k : Int) + k + 1 > 2000
      · rw [if_pos (.inl h2), if_pos (.inr (by omega))]
        rfl
      · rw [if_neg (by omega), if_neg (by omega)]
        rfl
    · rw [if_neg h1, if_pos (.inr (by omega))]
      rfl

/-- Tuples of one, one in another. -/
def deepB : Nat → List UInt8
  | 0 => [106]
  | d + 1 => 104 :: 1 :: deepB d

theorem deep_read : ∀ (d m : Nat) (B : List UInt8) (pos : Nat) (deep terms : Int), slc B pos (2 * d + 1) = deepB d → 2 * d + 1 ≤ m → 0 ≤ terms → terms + d + 1 ≤ 2000 → 1 ≤ deep → deep ≤ 61 →
    if deep + d ≤ 60 then ∃ t, rTerm B m deep pos terms = .ok (t, pos + 2 * d + 1, terms + d + 1) else rTerm B m deep pos terms = .error 4
  | 0, m, B, pos, deep, terms, hs, hm, h1, h2, h3, h4 => by
    have hb : B[pos]? = some 106 := by
      have := congrArg (fun l => l[0]?) hs
      simpa [slc, deepB] using this
    obtain ⟨m', rfl⟩ : ∃ m', m = m' + 1 := ⟨m - 1, by omega⟩
    rw [rTerm_nil hb]
    split
    · exact ⟨nilT, by rw [if_neg (by omega)]; congr 3 <;> omega⟩
    · rw [if_pos (by omega)]
  | d + 1, m, B, pos, deep, terms, hs, hm, h1, h2, h3, h4 => by
    obtain ⟨m', rfl⟩ : ∃ m', m = m' + 1 := ⟨m - 1, by omega⟩
    have hb0 : B[pos]? = some 104 := by
      have := congrArg (fun l => l[0]?) hs
      simpa [slc, deepB] using this
    have hb1 : B[pos + 1]? = some 1 := by
      have := congrArg (fun l => l[1]?) hs
      simpa [slc, deepB] using this
    have hb2 : slc B (pos + 2) (2 * d + 1) = deepB d := by
      have := congrArg (fun l => l.drop 2) hs
      simp only [slc, deepB, List.drop_succ_cons, List.drop_zero] at this
      rw [List.drop_take, List.drop_drop] at this
      rw [slc, ← this]
      congr 1
    have hlt : pos + 1 < B.length := (List.getElem?_eq_some_iff.1 hb1).1
    by_cases hd : deep > 60
    · rw [if_neg (show ¬ deep + ((d + 1 : Nat) : Int) ≤ 60 by omega), rTerm, hb0]
      simp only
      rw [if_pos (show terms + 1 > 2000 ∨ deep > 60 from .inr hd)]
    · have key : rTerm B (m' + 1) deep pos terms = (match rTerm B m' (deep + 1) (pos + 2) (terms + 1) with
          | .error c => .error c
          | .ok (t, p, k) => .ok (tupT [t], p, k)) := by
        rw [rTerm, hb0]
        simp only
        rw [if_neg (show ¬ (terms + 1 > 2000 ∨ deep > 60) by omega), if_neg (show ¬ isPlain 104 = true by decide), if_neg (show ¬ (104 : UInt8) = 108 by decide), if_pos trivial]
        unfold rMany
        have h1' : slc B (pos + 1) 1 = [1] := slc_one hb1
        have hv : beV [1] = 1 := by decide
        rw [if_pos (by omega), h1', hv, if_neg (by omega)]
        simp only
        rw [rSome]
        cases rTerm B m' (deep + 1) (pos + 2) (terms + 1) with
        | error c => rfl
        | ok b => rfl
      rw [key]
      have ih := deep_read d m' B (pos + 2) (deep + 1) (terms + 1) hb2 (by omega) (by omega) (by omega) (by omega) (by omega)
      by_cases hc : deep + 1 + d ≤ 60
      · rw [if_pos hc] at ih
        obtain ⟨t, ht⟩ := ih
        have e1 : pos + 2 + 2 * d + 1 = pos + 2 * (d + 1) + 1 := by omega
        have e2 : terms + 1 + (d : Int) + 1 = terms + ((d + 1 : Nat) : Int) + 1 := by omega
        rw [e1, e2] at ht
        rw [if_pos (by omega), ht]
        exact ⟨_, rfl⟩
      · rw [if_neg hc] at ih
        rw [if_neg (by omega), ih]

theorem deepB_len : ∀ d, (deepB d).length = 2 * d + 1
  | 0 => rfl
  | d + 1 => by simp only [deepB, List.length_cons, deepB_len d]; omega

theorem deep_get (d : Nat) (hd : d < 70) : getE (rGet (deepB d) 0) = if d + 1 ≤ 60 then 0 else 4 := by
  have h := deep_read d ((deepB d).length + 1) (deepB d) 0 1 0 (by rw [slc, List.drop_zero, List.take_of_length_le (by rw [deepB_len]; omega)]) (by rw [deepB_len]; omega) (by omega) (by omega) (by omega) (by omega)
  unfold rGet
  by_cases hc : d + 1 ≤ 60
  · rw [if_pos (by omega)] at h
    obtain ⟨t, ht⟩ := h
    rw [ht, if_pos hc]
    rfl
  · rw [if_neg (by omega)] at h
    rw [h, if_neg hc]
    rfl

theorem deepB_snoc : ∀ d, deepB d = (List.replicate d [104, 1]).flatten ++ [106]
  | 0 => rfl
  | d + 1 => by rw [deepB, deepB_snoc d, List.replicate_succ]; rfl
end Go.Proofs.Ythbbollhojdjdaa
