/- PLAIN LAWS, 1: what is read may be, and is put as it lay. Conditions: none. -/
import Derived.Test.YthbbollhojdjdaaWJ
namespace Go.Proofs.Ythbbollhojdjdaa
open Go.Ab
set_option maxRecDepth 100000
set_option linter.unusedSimpArgs false
set_option linter.unusedVariables false

mutual
/-- Is a term right, so deep (however many nodes it has)? -/
def okT : T → Int → Bool
  | .mk kind neg ln l s n kn k, deep => decide (deep ≤ 60) && ownB (.mk kind neg ln l s n kn k) && (if kind = 4 then okC k deep else okKs k (deep + 1))
def okC : List T → Int → Bool
  | [h, t], deep => okT h (deep + 1) && okT t deep
  | [], _ => false
  | [_], _ => false
  | _ :: _ :: _ :: _, _ => false
def okKs : List T → Int → Bool
  | [], _ => true
  | t :: k, deep => okT t deep && okKs k deep
end

mutual
theorem chk_ok : ∀ (t : T) (deep left : Int), 0 ≤ left → (((chk t deep left).1 = true ↔ okT t deep = true ∧ (tsz t : Int) ≤ left) ∧ ((chk t deep left).1 = true → (chk t deep left).2 = left - tsz t))
  | .mk kind neg ln l s n kn k, deep, left, hl => by
    rw [chk, okT, tsz]
    split
    · rename_i h
      refine ⟨⟨fun h => (by simp at h), fun ⟨h1, h2⟩ => ?_⟩, fun h => (by simp at h)⟩
      exfalso
      simp only [Bool.and_eq_true, decide_eq_true_eq] at h1
      rcases h with h | h | h
      · omega
      · omega
      · rw [h] at h1; exact absurd h1.1.2 (by simp)
    · rename_i h
      have h1 : ¬ left - 1 < 0 := fun e => h (.inl e)
      have h2 : deep ≤ 60 := by
        have : ¬ deep > 60 := fun e => h (.inr (.inl e))
        omega
      have h3 : ownB (.mk kind neg ln l s n kn k) = true := by
        cases ho : ownB (.mk kind neg ln l s n kn k) with
        | true => rfl
        | false => exact absurd (.inr (.inr ho)) h
      rw [h3, decide_eq_true h2]
      simp only [Bool.true_and]
      split
      · obtain ⟨q1, q2⟩ := chkC_ok k deep (left - 1) (by omega)
        exact ⟨by rw [q1]; constructor <;> (rintro ⟨a, b⟩; exact ⟨a, by omega⟩), fun hh => by rw [q2 hh]; omega⟩
      · obtain ⟨q1, q2⟩ := chkKs_ok k (deep + 1) (left - 1) (by omega)
        exact ⟨by rw [q1]; constructor <;> (rintro ⟨a, b⟩; exact ⟨a, by omega⟩), fun hh => by rw [q2 hh]; omega⟩
theorem chkC_ok : ∀ (k : List T) (deep left : Int), 0 ≤ left → (((chkC k deep left).1 = true ↔ okC k deep = true ∧ (tszs k : Int) ≤ left) ∧ ((chkC k deep left).1 = true → (chkC k deep left).2 = left - tszs k))
  | [x, y], deep, left, hl => by
    obtain ⟨q1, q2⟩ := chk_ok x (deep + 1) left hl
    rw [chkC, okC]
    simp only [tszs]
    split
    · rename_i hx
      have hx' := q1.1 hx
      obtain ⟨w1, w2⟩ := chk_ok y deep (chk x (deep + 1) left).2 (by rw [q2 hx]; omega)
      rw [q2 hx] at w1 w2 ⊢
      refine ⟨?_, fun hh => by rw [w2 hh]; omega⟩
      rw [w1, Bool.and_eq_true]
      constructor
      · rintro ⟨a, b⟩; exact ⟨⟨hx'.1, a⟩, by omega⟩
      · rintro ⟨⟨_, a⟩, b⟩; exact ⟨a, by omega⟩
    · rename_i hx
      refine ⟨⟨fun h => (by simp at h), fun ⟨a, b⟩ => ?_⟩, fun h => (by simp at h)⟩
      rw [Bool.and_eq_true] at a
      exact absurd (q1.2 ⟨a.1, by omega⟩) hx
  | [], deep, left, hl => by rw [chkC, okC]; simp
  | [_], deep, left, hl => by rw [chkC, okC]; simp
  | _ :: _ :: _ :: _, deep, left, hl => by rw [chkC, okC]; simp
theorem chkKs_ok : ∀ (k : List T) (deep left : Int), 0 ≤ left → (((chkKs k deep left).1 = true ↔ okKs k deep = true ∧ (tszs k : Int) ≤ left) ∧ ((chkKs k deep left).1 = true → (chkKs k deep left).2 = left - tszs k))
  | [], deep, left, hl => by rw [chkKs, okKs, tszs]; simp; omega
  | x :: k, deep, left, hl => by
    obtain ⟨q1, q2⟩ := chk_ok x deep left hl
    rw [chkKs, okKs, tszs]
    split
    · rename_i hx
      have hx' := q1.1 hx
      obtain ⟨w1, w2⟩ := chkKs_ok k deep (chk x deep left).2 (by rw [q2 hx]; omega)
      rw [q2 hx] at w1 w2 ⊢
      refine ⟨?_, fun hh => by rw [w2 hh]; omega⟩
      rw [w1, Bool.and_eq_true]
      constructor
      · rintro ⟨a, b⟩; exact ⟨⟨hx'.1, a⟩, by omega⟩
      · rintro ⟨⟨_, a⟩, b⟩; exact ⟨a, by omega⟩
    · rename_i hx
      refine ⟨⟨fun h => (by simp at h), fun ⟨a, b⟩ => ?_⟩, fun h => (by simp at h)⟩
      rw [Bool.and_eq_true] at a
      exact absurd (q1.2 ⟨a.1, by omega⟩) hx
end

theorem chkB_ok (t : T) : chkB t = true ↔ okT t 1 = true ∧ tsz t ≤ 2000 := by
  unfold chkB
  rw [(chk_ok t 1 2000 (by omega)).1]
  constructor <;> (rintro ⟨a, b⟩; exact ⟨a, by omega⟩)

/-! ### lists -/

def consT (h t : T) : T := .mk 4 false true [] [] 0 false [h, t]
theorem listT_nil (t : T) : listT [] t = t := rfl
theorem listT_cons (h : T) (l : List T) (t : T) : listT (h :: l) t = consT h (listT l t) := rfl
theorem consT_own (h t : T) : ownB (consT h t) = true := rfl
theorem okT_consT (h t : T) (deep : Int) : okT (consT h t) deep = (decide (deep ≤ 60) && (okT h (deep + 1) && okT t deep)) := by
  rw [consT, okT]
  have : ownB (.mk 4 false true [] [] 0 false [h, t]) = true := rfl
  rw [this, if_pos rfl, okC, Bool.and_true]
theorem okT_deep {t : T} {deep : Int} (h : okT t deep = true) : deep ≤ 60 := by
  cases t
  rw [okT] at h
  simp only [Bool.and_eq_true, decide_eq_true_eq] at h
  exact h.1.1
theorem okT_own {t : T} {deep : Int} (h : okT t deep = true) : ownB t = true := by
  cases t
  rw [okT] at h
  simp only [Bool.and_eq_true, decide_eq_true_eq] at h
  exact h.1.2
theorem okT_listT : ∀ (l : List T) (t : T) (deep : Int), okKs l (deep + 1) = true → okT t deep = true → okT (listT l t) deep = true
  | [], t, deep, _, h => h
  | x :: l, t, deep, hl, h => by
    rw [okKs, Bool.and_eq_true] at hl
    have := okT_deep h
    rw [listT_cons, okT_consT, hl.1, okT_listT l t deep hl.2 h]
    simp [this]
theorem tsz_listT : ∀ (l : List T) (t : T), tsz (listT l t) = l.length + tszs l + tsz t
  | [], t => by simp [listT_nil, tszs]
  | x :: l, t => by
    rw [listT_cons, consT, tsz, tszs, tszs, tszs, tszs, tsz_listT l t, List.length_cons]; omega
theorem cntT_listT : ∀ (l : List T) (t : T), ¬ t.kind = 4 → cntT (listT l t) = l.length
  | [], t, h => cntT_other h
  | x :: l, t, h => by
    rw [listT_cons, consT, cntT, if_pos rfl, cntK, cntT_listT l t h, List.length_cons]; omega
theorem hdsT_listT : ∀ (l : List T) (t : T), ¬ t.kind = 4 → hdsT (listT l t) = encKs l
  | [], t, h => by rw [listT_nil, hdsT_other h, encKs]
  | x :: l, t, h => by
    rw [listT_cons, consT, hdsT, if_pos rfl, hdsK, hdsT_listT l t h, encKs]
theorem tlT_listT : ∀ (l : List T) (t : T), ¬ t.kind = 4 → tlT (listT l t) = enc t
  | [], t, h => tlT_other h
  | x :: l, t, h => by
    rw [listT_cons, consT, tlT, if_pos rfl, tlK, tlT_listT l t h]
theorem enc_listT {l : List T} {t : T} (hl : l ≠ []) (h : ¬ t.kind = 4) : enc (listT l t) = 108 :: (be4 l.length ++ (encKs l ++ enc t)) := by
  have hk : (listT l t).kind = 4 := by
    cases l with
    | nil => exact absurd rfl hl
    | cons x l => rfl
  rw [enc_cons hk, cntT_listT l t h, hdsT_listT l t h, tlT_listT l t h]

/-! ### slices of bytes -/

theorem slc_add (B : List UInt8) (p a b : Nat) : slc B p (a + b) = slc B p a ++ slc B (p + a) b := by
  unfold slc
  rw [List.take_add, List.drop_drop]
theorem slc_to {B : List UInt8} {p q r : Nat} (h1 : p ≤ q) (h2 : q ≤ r) : slc B p (r - p) = slc B p (q - p) ++ slc B q (r - q) := by
  have : r - p = (q - p) + (r - q) := by omega
  rw [this, slc_add, show p + (q - p) = q by omega]
theorem slc_one {B : List UInt8} {p : Nat} {x : UInt8} (h : B[p]? = some x) : slc B p 1 = [x] := by
  have hlt : p < B.length := (List.getElem?_eq_some_iff.1 h).1
  unfold slc
  rw [List.drop_eq_getElem_cons hlt]
  rw [List.getElem?_eq_getElem hlt] at h
  cases h
  rfl

/-- Four bytes' number, as four bytes. -/
theorem be4_beV (a b c d : UInt8) : be4 (beV [a, b, c, d] : Nat) = [a, b, c, d] := by
  have ha := a.toNat_lt; have hb := b.toNat_lt; have hc := c.toNat_lt; have hd := d.toNat_lt
  simp only [beV, List.foldl_cons, List.foldl_nil, be4, u8i]
  generalize hn : (((0 * 256 + a.toNat) * 256 + b.toNat) * 256 + c.toNat) * 256 + d.toNat = n
  have f : ∀ (k : Nat) (x : UInt8), 0 < k → x.toNat = n / k % 256 → UInt8.ofNat (IntKind.u8.wrap ((n : Int).fdiv (k : Nat))).toNat = x := by
    intro k x hk h
    rw [Int.fdiv_eq_ediv_of_nonneg _ (by omega), IntKind.wrap_u8]
    apply UInt8.toNat_inj.1
    rw [UInt8.toNat_ofNat', h]
    have : ((n : Int) / (k : Nat) % 256).toNat = n / k % 256 := by omega
    rw [this]; omega
  have e1 := f 16777216 a (by omega) (by omega)
  have e2 := f 65536 b (by omega) (by omega)
  have e3 := f 256 c (by omega) (by omega)
  have e4 := f 1 d (by omega) (by omega)
  rw [show (n : Int).fdiv ((1 : Nat) : Int) = n by rw [Int.fdiv_eq_ediv_of_nonneg _ (by omega)]; omega] at e4
  simp only [List.cons.injEq, and_true]
  exact ⟨e1, e2, e3, e4⟩

theorem u8i_beV (a : UInt8) : u8i (beV [a] : Nat) = a := by
  have ha := a.toNat_lt
  simp only [beV, List.foldl_cons, List.foldl_nil, u8i]
  rw [IntKind.wrap_u8]
  apply UInt8.toNat_inj.1
  rw [UInt8.toNat_ofNat']
  omega

/-! ### what is read -/

theorem rPre_leaf {B : List UInt8} {tag : UInt8} {pos : Nat} {t : T} {p : Nat} (h : rPre B tag pos = .ok (t, p)) : t.k = [] := by
  have nk : ∀ v, (numT v).k = [] := fun _ => rfl
  have bk : ∀ l, (bigT l).k = [] := fun l => by cases l <;> rfl
  have ak : ∀ l, (atomT l).k = [] := fun _ => rfl
  have ik : ∀ l, (binT l).k = [] := fun _ => rfl
  unfold rPre at h
  split at h
  · split at h
    · cases h; rfl
    · cases h
  · split at h
    · split at h
      · cases h; rfl
      · cases h
    · split at h
      · split at h
        · split at h
          · cases h; exact bk _
          · cases h
        · cases h
      · split at h
        · split at h
          · split at h
            · cases h; rfl
            · cases h
          · cases h
        · split at h
          · split at h
            · split at h
              · cases h; rfl
              · cases h
            · cases h
          · cases h; rfl

theorem okT_leaf {t : T} (hk : t.k = []) {d : Int} (h : okT t d = true) {e : Int} (he : e ≤ 60) : okT t e = true := by
  cases t with
  | mk kind neg ln l s n kn k =>
    simp only [T.k] at hk
    subst hk
    rw [okT] at h ⊢
    simp only [Bool.and_eq_true, decide_eq_true_eq] at h ⊢
    refine ⟨⟨he, h.1.2⟩, ?_⟩
    have := h.2
    split at this
    · simp [okC] at this
    · rename_i h4; rw [if_neg h4, okKs]
theorem tsz_leaf {t : T} (hk : t.k = []) : tsz t = 1 := by
  cases t with
  | mk kind neg ln l s n kn k =>
    simp only [T.k] at hk
    subst hk
    rw [tsz, tszs]

theorem rSome_sound {B : List UInt8} {g : Nat → Int → Except Int (T × Nat × Int)} {d : Int}
    (hb : ∀ pos terms t p k, pos ≤ B.length → 0 ≤ terms → terms ≤ 2000 → g pos terms = .ok (t, p, k) → pos < p ∧ p ≤ B.length ∧ terms < k ∧ k ≤ 2000)
    (hg : ∀ pos terms t p k, pos ≤ B.length → 0 ≤ terms → terms ≤ 2000 → g pos terms = .ok (t, p, k) → okT t d = true ∧ k = terms + tsz t ∧ enc t = slc B pos (p - pos)) :
    ∀ (n pos : Nat) (terms : Int) (l : List T) (p : Nat) (k : Int), pos ≤ B.length → 0 ≤ terms → terms ≤ 2000 → rSome g n pos terms = .ok (l, p, k) → okKs l d = true ∧ k = terms + tszs l ∧ encKs l = slc B pos (p - pos) ∧ pos ≤ p
  | 0, pos, terms, l, p, k, h1, h2, h3, h => by
    rw [rSome] at h
    cases h
    exact ⟨by rw [okKs], by rw [tszs]; omega, by rw [encKs, Nat.sub_self]; simp [slc], Nat.le_refl _⟩
  | n + 1, pos, terms, l, p, k, h1, h2, h3, h => by
    rw [rSome] at h
    cases hx : g pos terms with
    | error c => rw [hx] at h; cases h
    | ok b =>
      obtain ⟨t, p1, k1⟩ := b
      rw [hx] at h
      simp only at h
      obtain ⟨q1, q2, q3, q4⟩ := hb pos terms t p1 k1 h1 h2 h3 hx
      obtain ⟨g1, g2, g3⟩ := hg pos terms t p1 k1 h1 h2 h3 hx
      cases hy : rSome g n p1 k1 with
      | error c => rw [hy] at h; cases h
      | ok b =>
        obtain ⟨l2, p2, k2⟩ := b
        rw [hy] at h
        cases h
        obtain ⟨w1, w2, w3, w4⟩ := rSome_sound hb hg n p1 k1 l2 p k q2 (by omega) q4 hy
        refine ⟨by rw [okKs, g1, w1]; rfl, by rw [tszs, w2, g2]; omega, ?_, by omega⟩
        rw [encKs, g3, w3, ← slc_to (by omega) w4]

theorem rTerm_sound {B : List UInt8} : ∀ (m : Nat) (deep : Int) (pos : Nat) (terms : Int) (t : T) (p : Nat) (k : Int), pos ≤ B.length → 0 ≤ terms → terms ≤ 2000 → rTerm B m deep pos terms = .ok (t, p, k) →
    okT t deep = true ∧ k = terms + tsz t ∧ enc t = slc B pos (p - pos)
  | 0, deep, pos, terms, t, p, k, h1, h2, h3, h => by rw [rTerm] at h; cases h
  | m + 1, deep, pos, terms, t, p, k, h1, h2, h3, h => by
    rw [rTerm] at h
    cases hb : B[pos]? with
    | none => rw [hb] at h; cases h
    | some tag =>
      have hlt : pos < B.length := (List.getElem?_eq_some_iff.1 hb).1
      rw [hb] at h
      simp only at h
      split at h
      · cases h
      · rename_i hd
        have hdeep : deep ≤ 60 := by omega
        have hs := fun (d : Int) => rSome_sound (B := B) (g := rTerm B m d) (d := d) (fun pos terms t p k a b c e => rTerm_bnd m d pos terms t p k a b c e) (fun pos terms t p k a b c e => rTerm_sound m d pos terms t p k a b c e)
        split at h
        · obtain ⟨q1, q2, q3, q4, q5, q6⟩ := rPlain_bnd (by omega) h
          have hk := rPre_leaf q6
          exact ⟨okT_leaf hk ((chkB_ok t).1 q4).1 hdeep, by rw [q3, tsz_leaf hk]; omega, q5⟩
        · split at h
          · rename_i h108
            cases hm : rMany B 4 1 (2000 - terms) (pos + 1) with
            | error c => rw [hm] at h; cases h
            | ok n =>
              rw [hm] at h
              simp only at h
              obtain ⟨a1, a2, a3⟩ := rMany_le hm
              have hbe : n = beV (slc B (pos + 1) 4) := by
                unfold rMany at hm
                rw [if_pos a1] at hm
                split at hm
                · cases hm
                · cases hm; rfl
              cases hx : rSome (rTerm B m (deep + 1)) n (pos + 5) (terms + n) with
              | error c => rw [hx] at h; cases h
              | ok b =>
                obtain ⟨l, p1, k1⟩ := b
                rw [hx] at h
                simp only at h
                obtain ⟨w1, w2, w3, w4, w5⟩ := rSome_bnd (B := B) (g := rTerm B m (deep + 1)) (lo := 0) (fun pos terms t p k _ a b c e => rTerm_bnd m (deep + 1) pos terms t p k a b c e) n (pos + 5) (terms + n) l p1 k1 (by omega) (by omega) (by omega) (by omega) hx
                obtain ⟨s1, s2, s3, s4⟩ := hs (deep + 1) n (pos + 5) (terms + n) l p1 k1 (by omega) (by omega) (by omega) hx
                cases hy : rTerm B m deep p1 k1 with
                | error c => rw [hy] at h; cases h
                | ok b =>
                  obtain ⟨t', p2, k2⟩ := b
                  rw [hy] at h
                  simp only at h
                  split at h
                  · cases h
                  · rename_i hk4
                    cases h
                    obtain ⟨v1, v2, v3, v4⟩ := rTerm_bnd m deep p1 k1 t' p k w2 (by omega) w4 hy
                    obtain ⟨u1, u2, u3⟩ := rTerm_sound m deep p1 k1 t' p k w2 (by omega) w4 hy
                    have hl0 : l ≠ [] := by intro e; rw [e] at w5; simp at w5; omega
                    refine ⟨okT_listT l t' deep s1 u1, by rw [u2, s2, tsz_listT, w5]; omega, ?_⟩
                    rw [enc_listT hl0 hk4, w5, u3, s3]
                    have e1 : (slc B (pos + 1) 4).length = 4 := by simp [slc]; omega
                    have e2 : be4 (n : Nat) = slc B (pos + 1) 4 := by
                      rw [hbe]
                      match slc B (pos + 1) 4, e1 with
                      | [a, b, c, d], _ => exact be4_beV a b c d
                    rw [e2, ← slc_to (B := B) (p := pos + 5) (q := p1) (r := p) (by omega) (by omega)]
                    have e3 := slc_to (B := B) (p := pos + 1) (q := pos + 5) (r := p) (by omega) (by omega)
                    rw [show pos + 5 - (pos + 1) = 4 by omega] at e3
                    rw [← e3, slc_to (B := B) (p := pos) (q := pos + 1) (r := p) (by omega) (by omega), show pos + 1 - pos = 1 by omega, slc_one hb, h108]
                    rfl
          · split at h
            · rename_i h104
              cases hm : rMany B 1 0 40 (pos + 1) with
              | error c => rw [hm] at h; cases h
              | ok n =>
                rw [hm] at h
                simp only at h
                obtain ⟨a1, a2, a3⟩ := rMany_le hm
                have hbe : n = beV (slc B (pos + 1) 1) := by
                  unfold rMany at hm
                  rw [if_pos a1] at hm
                  split at hm
                  · cases hm
                  · cases hm; rfl
                cases hx : rSome (rTerm B m (deep + 1)) n (pos + 2) (terms + 1) with
                | error c => rw [hx] at h; cases h
                | ok b =>
                  obtain ⟨l, p1, k1⟩ := b
                  rw [hx] at h
                  cases h
                  obtain ⟨w1, w2, w3, w4, w5⟩ := rSome_bnd (B := B) (g := rTerm B m (deep + 1)) (lo := 0) (fun pos terms t p k _ a b c e => rTerm_bnd m (deep + 1) pos terms t p k a b c e) n (pos + 2) (terms + 1) l p k (by omega) (by omega) (by omega) (by omega) hx
                  obtain ⟨s1, s2, s3, s4⟩ := hs (deep + 1) n (pos + 2) (terms + 1) l p k (by omega) (by omega) (by omega) hx
                  have hown : ownB (tupT l) = true := by
                    have hll : l.length ≤ 40 := by omega
                    simp [ownB, ownI, ownS, ownK, tupT, T.kind, T.neg, T.l, T.s, T.n, T.k, zeroB, hll]
                  refine ⟨?_, by rw [s2, tupT, tsz]; omega, ?_⟩
                  · have e : okT (tupT l) deep = (decide (deep ≤ 60) && ownB (tupT l) && okKs l (deep + 1)) := by rw [tupT, okT]; rfl
                    rw [e, hown, s1, decide_eq_true hdeep]; rfl
                  · rw [enc_tuple (by rfl)]
                    have hk : (tupT l).k = l := rfl
                    rw [hk, w5, s3]
                    have e1 : (slc B (pos + 1) 1).length = 1 := by simp [slc]; omega
                    have e2 : [u8i (n : Nat)] = slc B (pos + 1) 1 := by
                      rw [hbe]
                      match slc B (pos + 1) 1, e1 with
                      | [a], _ => rw [u8i_beV]
                    have e3 := slc_to (B := B) (p := pos + 1) (q := pos + 2) (r := p) (by omega) (by omega)
                    rw [show pos + 2 - (pos + 1) = 1 by omega, ← e2] at e3
                    rw [slc_to (B := B) (p := pos) (q := pos + 1) (r := p) (by omega) (by omega), show pos + 1 - pos = 1 by omega, slc_one hb, h104, e3]
                    rfl
            · cases h

theorem rGet_sound {B : List UInt8} {a : Nat} (ha : a ≤ B.length) {t : T} {p : Nat} {k : Int} (h : rGet B a = .ok (t, p, k)) : chkB t = true ∧ enc t = slc B a (p - a) ∧ a < p ∧ p ≤ B.length := by
  obtain ⟨h1, h2, h3⟩ := rTerm_sound _ _ _ _ _ _ _ ha (by omega) (by omega) h
  obtain ⟨b1, b2, b3, b4⟩ := rTerm_bnd _ _ _ _ _ _ _ ha (by omega) (by omega) h
  exact ⟨(chkB_ok t).2 ⟨h1, by omega⟩, h3, b1, b2⟩
theorem rGet_err {B : List UInt8} {a : Nat} {c : Int} (h : rGet B a = .error c) : c = 3 ∨ c = 4 := rTerm_err _ _ _ _ _ h
end Go.Proofs.Ythbbollhojdjdaa
