/- WALKS, 16: the reader: a term. Conditions: the place lies in the bytes. -/
import Derived.Test.YthbbollhojdjdaaWF
namespace Go.Proofs.Ythbbollhojdjdaa
open Go.Ab
set_option maxRecDepth 100000
set_option linter.unusedSimpArgs false
set_option linter.unusedVariables false

/-! ### what is read -/

def rSome (g : Nat → Int → Except Int (T × Nat × Int)) : Nat → Nat → Int → Except Int (List T × Nat × Int)
  | 0, pos, terms => .ok ([], pos, terms)
  | n + 1, pos, terms => match g pos terms with
    | .error c => .error c
    | .ok (t, p, k) => match rSome g n p k with
      | .error c => .error c
      | .ok (l, p', k') => .ok (t :: l, p', k')

def tupT (l : List T) : T := .mk 5 false true [] [] 0 (emp l) l
def isPlain (tag : UInt8) : Bool := tag = 97 || tag = 98 || tag = 110 || tag = 119 || tag = 109 || tag = 106

def rTerm (B : List UInt8) : Nat → Int → Nat → Int → Except Int (T × Nat × Int)
  | 0, _, _, _ => .error 3
  | m + 1, deep, pos, terms => match B[pos]? with
    | none => .error 3
    | some tag =>
      if terms + 1 > 2000 ∨ deep > 60 then .error 4
      else if isPlain tag = true then rPlain B tag pos (terms + 1)
      else if tag = 108 then
        match rMany B 4 1 (2000 - terms) (pos + 1) with
        | .error c => .error c
        | .ok n => match rSome (rTerm B m (deep + 1)) n (pos + 5) (terms + n) with
          | .error c => .error c
          | .ok (l, p, k) => match rTerm B m deep p k with
            | .error c => .error c
            | .ok (t, p', k') => if t.kind = 4 then .error 4 else .ok (listT l t, p', k')
      else if tag = 104 then
        match rMany B 1 0 40 (pos + 1) with
        | .error c => .error c
        | .ok n => match rSome (rTerm B m (deep + 1)) n (pos + 2) (terms + 1) with
          | .error c => .error c
          | .ok (l, p, k) => .ok (tupT l, p, k)
      else .error 4

theorem rSome_bnd {B : List UInt8} {g : Nat → Int → Except Int (T × Nat × Int)} {lo : Nat}
    (hg : ∀ pos terms t p k, lo ≤ pos → pos ≤ B.length → 0 ≤ terms → terms ≤ 2000 → g pos terms = .ok (t, p, k) → pos < p ∧ p ≤ B.length ∧ terms < k ∧ k ≤ 2000) :
    ∀ (n pos : Nat) (terms : Int) (l : List T) (p : Nat) (k : Int), lo ≤ pos → pos ≤ B.length → 0 ≤ terms → terms ≤ 2000 → rSome g n pos terms = .ok (l, p, k) → pos ≤ p ∧ p ≤ B.length ∧ terms ≤ k ∧ k ≤ 2000 ∧ l.length = n
  | 0, pos, terms, l, p, k, h0, h1, h2, h3, h => by rw [rSome] at h; cases h; exact ⟨Nat.le_refl _, h1, Int.le_refl _, h3, rfl⟩
  | n + 1, pos, terms, l, p, k, h0, h1, h2, h3, h => by
    rw [rSome] at h
    cases hx : g pos terms with
    | error c => rw [hx] at h; cases h
    | ok b =>
      obtain ⟨t, p1, k1⟩ := b
      rw [hx] at h
      simp only at h
      obtain ⟨q1, q2, q3, q4⟩ := hg pos terms t p1 k1 h0 h1 h2 h3 hx
      cases hy : rSome g n p1 k1 with
      | error c => rw [hy] at h; cases h
      | ok b =>
        obtain ⟨l2, p2, k2⟩ := b
        rw [hy] at h
        cases h
        obtain ⟨w1, w2, w3, w4, w5⟩ := rSome_bnd hg n p1 k1 l2 p k (by omega) q2 (by omega) q4 hy
        exact ⟨by omega, w2, by omega, w4, by simp [w5]⟩

theorem rPlain_bnd {B : List UInt8} {tag : UInt8} {pos : Nat} {terms : Int} (hp : pos + 1 ≤ B.length) {t : T} {p : Nat} {k : Int} (h : rPlain B tag pos terms = .ok (t, p, k)) :
    pos < p ∧ p ≤ B.length ∧ k = terms ∧ chkB t = true ∧ enc t = slc B pos (p - pos) ∧ rPre B tag (pos + 1) = .ok (t, p) := by
  unfold rPlain at h
  cases hx : rPre B tag (pos + 1) with
  | error c => rw [hx] at h; cases h
  | ok b =>
    obtain ⟨t', p'⟩ := b
    rw [hx, rFin] at h
    split at h
    · cases h
      have := rPre_le hp hx
      exact ⟨by omega, by omega, rfl, by rename_i hh; exact hh.1, by rename_i hh; exact hh.2, rfl⟩
    · cases h

theorem rTerm_bnd {B : List UInt8} : ∀ (m : Nat) (deep : Int) (pos : Nat) (terms : Int) (t : T) (p : Nat) (k : Int), pos ≤ B.length → 0 ≤ terms → terms ≤ 2000 → rTerm B m deep pos terms = .ok (t, p, k) → pos < p ∧ p ≤ B.length ∧ terms < k ∧ k ≤ 2000
  | 0, deep, pos, terms, t, p, k, h1, h2, h3, h => by rw [rTerm] at h; cases h
  | m + 1, deep, pos, terms, t, p, k, h1, h2, h3, h => by
    rw [rTerm] at h
    cases hb : B[pos]? with
    | none => rw [hb] at h; cases h
    | some tag =>
      have hlt : pos < B.length := by
        rcases Nat.lt_or_ge pos B.length with h' | h'
        · exact h'
        · rw [List.getElem?_eq_none h'] at hb; cases hb
      rw [hb] at h
      simp only at h
      split at h
      · cases h
      · rename_i hd
        have hs := fun (d : Int) => rSome_bnd (B := B) (g := rTerm B m d) (lo := 0) (fun pos terms t p k _ a b c e => rTerm_bnd m d pos terms t p k a b c e)
        split at h
        · obtain ⟨q1, q2, q3, _⟩ := rPlain_bnd (by omega) h
          omega
        · split at h
          · cases hm : rMany B 4 1 (2000 - terms) (pos + 1) with
            | error c => rw [hm] at h; cases h
            | ok n =>
              rw [hm] at h
              simp only at h
              obtain ⟨a1, a2, a3⟩ := rMany_le hm
              cases hx : rSome (rTerm B m (deep + 1)) n (pos + 5) (terms + n) with
              | error c => rw [hx] at h; cases h
              | ok b =>
                obtain ⟨l, p1, k1⟩ := b
                rw [hx] at h
                simp only at h
                obtain ⟨w1, w2, w3, w4, w5⟩ := hs (deep + 1) n (pos + 5) (terms + n) l p1 k1 (by omega) (by omega) (by omega) (by omega) hx
                cases hy : rTerm B m deep p1 k1 with
                | error c => rw [hy] at h; cases h
                | ok b =>
                  obtain ⟨t', p2, k2⟩ := b
                  rw [hy] at h
                  simp only at h
                  split at h
                  · cases h
                  · cases h
                    obtain ⟨v1, v2, v3, v4⟩ := rTerm_bnd m deep p1 k1 t' p k w2 (by omega) w4 hy
                    omega
          · split at h
            · cases hm : rMany B 1 0 40 (pos + 1) with
              | error c => rw [hm] at h; cases h
              | ok n =>
                rw [hm] at h
                simp only at h
                obtain ⟨a1, a2, a3⟩ := rMany_le hm
                cases hx : rSome (rTerm B m (deep + 1)) n (pos + 2) (terms + 1) with
                | error c => rw [hx] at h; cases h
                | ok b =>
                  obtain ⟨l, p1, k1⟩ := b
                  rw [hx] at h
                  cases h
                  obtain ⟨w1, w2, w3, w4, w5⟩ := hs (deep + 1) n (pos + 2) (terms + 1) l p k (by omega) (by omega) (by omega) (by omega) hx
                  omega
            · cases h

theorem rTerm_err {B : List UInt8} : ∀ (m : Nat) (deep : Int) (pos : Nat) (terms : Int) (c : Int), rTerm B m deep pos terms = .error c → c = 3 ∨ c = 4 := by
  have hmany : ∀ {k a b pos c}, rMany B k a b pos = .error c → c = 3 ∨ c = 4 := by
    intro k a b pos c h
    unfold rMany at h
    split at h
    · split at h
      · cases h; exact .inr rfl
      · cases h
    · cases h; exact .inl rfl
  have htake : ∀ {n pos c}, rTake B n pos = .error c → c = 3 ∨ c = 4 := fun h => .inl (rTake_err h).2
  have hpre : ∀ {tag pos c}, rPre B tag pos = .error c → c = 3 ∨ c = 4 := by
    intro tag pos c h
    unfold rPre at h
    split at h
    · split at h
      · cases h
      · rename_i h'; cases h; exact htake h'
    · split at h
      · split at h
        · cases h
        · rename_i h'; cases h; exact htake h'
      · split at h
        · split at h
          · split at h
            · cases h
            · rename_i h'; cases h; exact htake h'
          · rename_i h'; cases h; exact hmany h'
        · split at h
          · split at h
            · split at h
              · cases h
              · rename_i h'; cases h; exact htake h'
            · rename_i h'; cases h; exact hmany h'
          · split at h
            · split at h
              · split at h
                · cases h
                · rename_i h'; cases h; exact htake h'
              · rename_i h'; cases h; exact hmany h'
            · cases h
  have hsome : ∀ {g : Nat → Int → Except Int (T × Nat × Int)}, (∀ pos terms c, g pos terms = .error c → c = 3 ∨ c = 4) → ∀ n pos terms c, rSome g n pos terms = .error c → c = 3 ∨ c = 4 := by
    intro g hg n
    induction n with
    | zero => intro pos terms c h; rw [rSome] at h; cases h
    | succ n ih =>
      intro pos terms c h
      rw [rSome] at h
      split at h
      · rename_i h'; cases h; exact hg _ _ _ h'
      · split at h
        · rename_i h'; cases h; exact ih _ _ _ h'
        · cases h
  intro m
  induction m with
  | zero => intro deep pos terms c h; rw [rTerm] at h; cases h; exact .inl rfl
  | succ m ih =>
    intro deep pos terms c h
    rw [rTerm] at h
    split at h
    · cases h; exact .inl rfl
    · split at h
      · cases h; exact .inr rfl
      · split at h
        · unfold rPlain at h
          cases hx : rPre B _ (pos + 1) with
          | error c' => rw [hx, rFin] at h; cases h; exact hpre hx
          | ok b =>
            rw [hx] at h
            obtain ⟨t, p⟩ := b
            rw [rFin] at h
            split at h
            · cases h
            · cases h; exact .inr rfl
        · split at h
          · split at h
            · rename_i h'; cases h; exact hmany h'
            · split at h
              · rename_i h'; cases h; exact hsome (ih _) _ _ _ _ h'
              · split at h
                · rename_i h'; cases h; exact ih _ _ _ _ h'
                · split at h
                  · cases h; exact .inr rfl
                  · cases h
          · split at h
            · split at h
              · rename_i h'; cases h; exact hmany h'
              · split at h
                · rename_i h'; cases h; exact hsome (ih _) _ _ _ _ h'
                · cases h
            · cases h; exact .inr rfl
end Go.Proofs.Ythbbollhojdjdaa
