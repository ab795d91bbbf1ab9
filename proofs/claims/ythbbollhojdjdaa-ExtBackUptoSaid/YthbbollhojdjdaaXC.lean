/- WALKS, 29-30, with PLAIN LAWS, 6. -/
import Derived.Test.YthbbollhojdjdaaQB
import Derived.Test.YthbbollhojdjdaaWL
import Derived.Test.YthbbollhojdjdaaWM
/- PLAIN LAWS, 6: what is put is got, whole; cut it is short. Conditions: none. -/
namespace Go.Proofs.Ythbbollhojdjdaa
open Go.Ab
set_option maxRecDepth 100000
set_option linter.unusedSimpArgs false
set_option linter.unusedVariables false

theorem rSome_full {B : List UInt8} {g : Nat → Int → Except Int (T × Nat × Int)} : ∀ (l : List T) (pos : Nat) (terms : Int),
    (∀ x, x ∈ l → ∀ (pos : Nat) (terms : Int), Ag B pos (enc x) → 0 ≤ terms → terms + tsz x ≤ 2000 → g pos terms = .ok (canon x, pos + (enc x).length, terms + tsz x)) →
    Ag B pos (encKs l) → 0 ≤ terms → terms + tszs l ≤ 2000 → rSome g l.length pos terms = .ok (canons l, pos + (encKs l).length, terms + tszs l)
  | [], pos, terms, hg, ha, h0, h1 => by
    simp [rSome, canons, encKs, tszs]
  | x :: l, pos, terms, hg, ha, h0, h1 => by
    rw [encKs] at ha
    rw [tszs] at h1
    have hx := hg x (by simp) pos terms ha.left h0 (by omega)
    have hl := rSome_full l (pos + (enc x).length) (terms + tsz x) (fun y hy => hg y (by simp [hy])) ha.right (by omega) (by omega)
    rw [List.length_cons, rSome, hx]
    simp only
    rw [hl]
    simp only [canons, encKs, tszs, List.length_append]
    congr 3
    · omega
    · omega

theorem chain_ex : ∀ (m : Nat) (t : T) (d : Int), tsz t ≤ m → okT t d = true → ∃ (l : List T) (r : T), canon t = listT (canons l) (canon r) ∧ cntT t = l.length ∧ hdsT t = encKs l ∧ tlT t = enc r ∧ ¬ r.kind = 4 ∧ okKs l (d + 1) = true ∧ okT r d = true ∧ tsz t = l.length + tszs l + tsz r ∧ (t.kind = 4 → ¬ l = [])
  | 0, t, d, hm, h => by have := tsz_pos t; omega
  | m + 1, t, d, hm, h => by
    by_cases h4 : t.kind = 4
    · have ho := okT_own h
      have hlen : t.k.length = 2 := by
        have c3 := ho
        simp only [ownB, ownK, h4, Bool.and_eq_true, if_true, decide_eq_true_eq] at c3
        exact c3.2.1.2
      match hk : t.k, hlen with
      | [x, y], _ =>
        have hfl : t.neg = false ∧ t.l = [] ∧ t.s = [] ∧ t.n = 0 := by
          have c3 := ho
          simp only [ownB, ownI, ownS, h4, Bool.and_eq_true, decide_eq_true_eq] at c3
          have hz := c3.2.1.1.1
          have hs := c3.2.1.1.2
          simp [zeroB] at hz hs
          exact ⟨hz.1, hz.2, hs, c3.2.2⟩
        have hkid : okT x (d + 1) = true ∧ okT y d = true := by
          cases t with
          | mk kind neg ln l s n kn k =>
            simp only [T.kind, T.k] at h4 hk
            subst h4 hk
            rw [okT, if_pos rfl, okC] at h
            simp only [Bool.and_eq_true] at h
            exact h.2
        have hsz : tsz t = 1 + (tsz x + tsz y) := by
          cases t with
          | mk kind neg ln l s n kn k =>
            simp only [T.k] at hk
            subst hk
            simp only [tsz, tszs]
            omega
        obtain ⟨l, r, e1, e2, e3, e4, e5, e6, e7, e8, _⟩ := chain_ex m y d (by have := tsz_pos x; omega) hkid.2
        refine ⟨x :: l, r, ?_, ?_, ?_, ?_, e5, ?_, e7, ?_, fun _ => by simp⟩
        · rw [canon_eq, h4, hfl.1, hfl.2.1, hfl.2.2.1, hfl.2.2.2, hk, canons, canons, canons, e1, canons, listT_cons]
          rfl
        · rw [cntT_cons h4, hk, cntK, e2, List.length_cons]; omega
        · rw [hdsT_cons h4, hk, hdsK, e3, encKs]
        · rw [tlT_cons h4, hk, tlK, e4]
        · rw [okKs, hkid.1, e6]; rfl
        · rw [hsz, e8, List.length_cons, tszs]; omega
    · exact ⟨[], t, by rw [canons]; rfl, cntT_other h4, by rw [hdsT_other h4, encKs], tlT_other h4, h4, rfl, h, by simp [tszs], fun e => absurd e h4⟩

theorem encKs_mem {x : T} : ∀ {l : List T}, x ∈ l → (enc x).length ≤ (encKs l).length
  | y :: l, h => by
    rw [encKs, List.length_append]
    rcases List.mem_cons.1 h with rfl | h
    · omega
    · have := encKs_mem h; omega

theorem okKs_mem' {x : T} : ∀ {k : List T} {d : Int}, x ∈ k → okKs k d = true → okT x d = true
  | y :: k, d, h, hk => by
    rw [okKs, Bool.and_eq_true] at hk
    rcases List.mem_cons.1 h with rfl | h
    · exact hk.1
    · exact okKs_mem' h hk.2

/-- What is put is got. -/
theorem rTerm_full {B : List UInt8} : ∀ (m : Nat) (t : T) (deep : Int) (pos : Nat) (terms : Int), (enc t).length < m → okT t deep = true → Ag B pos (enc t) → 0 ≤ terms → terms + tsz t ≤ 2000 →
    rTerm B m deep pos terms = .ok (canon t, pos + (enc t).length, terms + tsz t)
  | 0, t, deep, pos, terms, hm, ho, ha, h0, h1 => by omega
  | m + 1, t, deep, pos, terms, hm, ho, ha, h0, h1 => by
    have hd := okT_deep ho
    have hpos := tsz_pos t
    by_cases h4 : t.kind = 4
    · obtain ⟨l, r, e1, e2, e3, e4, e5, e6, e7, e8, e9⟩ := chain_ex (tsz t) t deep (Nat.le_refl _) ho
      have hne := e9 h4
      have hl1 : 0 < l.length := List.length_pos_iff.2 hne
      have hen := enc_cons h4
      rw [e2, e3, e4] at hen
      have hel : (enc t).length = 5 + (encKs l).length + (enc r).length := by rw [hen]; simp [be4_length]; omega
      rw [hen] at ha
      have hb : B[pos]? = some 108 := ha.head
      have hbe := ha.tail.left
      have hrest := ha.tail.right
      rw [be4_length] at hrest
      have hkids := hrest.left
      have htail := hrest.right
      have hmany := rMany_ok (k := 4) (least := 1) (most := 2000 - terms) hbe (be4_length _) (by omega) (by rw [beV_be4 _ (by omega)]; omega) (by rw [beV_be4 _ (by omega)]; omega)
      rw [beV_be4 _ (by omega)] at hmany
      have hs := rSome_full (g := rTerm B m (deep + 1)) l (pos + 5) (terms + l.length)
        (fun x hx p k hag q0 q1 => rTerm_full m x (deep + 1) p k (by have := encKs_mem hx; omega) (okKs_mem' hx e6) hag q0 q1) hkids (by omega) (by omega)
      have htr := rTerm_full m r deep (pos + 5 + (encKs l).length) (terms + l.length + tszs l) (by omega) e7 htail (by omega) (by omega)
      rw [rTerm, hb]
      simp only
      rw [if_neg (by omega), if_neg (by decide), if_pos trivial, hmany]
      simp only
      rw [hs]
      simp only
      rw [htr]
      simp only
      rw [if_neg (by rw [canon_kind]; exact e5), e1, hel]
      congr 3
      · omega
      · omega
    · by_cases h5 : t.kind = 5
      · have hen := enc_tuple h5
        have hown := okT_own ho
        have hlen : t.k.length ≤ 40 := by
          have c3 := hown
          simp only [ownB, ownK, h5, Bool.and_eq_true, decide_eq_true_eq] at c3
          simpa using c3.2.1.2
        have hfl : t.neg = false ∧ t.l = [] ∧ t.s = [] ∧ t.n = 0 := by
          have c3 := hown
          simp only [ownB, ownI, ownS, h5, Bool.and_eq_true, decide_eq_true_eq] at c3
          have hz := c3.2.1.1.1
          have hs := c3.2.1.1.2
          simp [zeroB] at hz hs
          exact ⟨hz.1, hz.2, hs, c3.2.2⟩
        have hkid : okKs t.k (deep + 1) = true := by
          cases t with
          | mk kind neg ln l s n kn k =>
            simp only [T.kind] at h4
            rw [okT, if_neg h4] at ho
            simp only [Bool.and_eq_true] at ho
            exact ho.2
        have hsz : tsz t = 1 + tszs t.k := by cases t; rw [tsz]; rfl
        have hcan : canon t = tupT (canons t.k) := by
          rw [canon_eq, h5, hfl.1, hfl.2.1, hfl.2.2.1, hfl.2.2.2, tupT]
          congr 1
          cases t.k with
          | nil => rfl
          | cons x k => rfl
        have hel : (enc t).length = 2 + (encKs t.k).length := by rw [hen]; simp; omega
        rw [hen] at ha
        have hb : B[pos]? = some 104 := ha.head
        have h2 := ha.tail
        have hkids := h2.tail
        have hmany := rMany_ok (E := [u8i (t.k.length : Nat)]) (k := 1) (least := 0) (most := 40) (Ag.left (F := encKs t.k) h2) rfl (by omega) (by rw [beV_one _ (by omega)]; omega) (by rw [beV_one _ (by omega)]; omega)
        rw [beV_one _ (by omega)] at hmany
        have hs := rSome_full (g := rTerm B m (deep + 1)) t.k (pos + 2) (terms + 1)
          (fun x hx p k hag q0 q1 => rTerm_full m x (deep + 1) p k (by have := encKs_mem hx; omega) (okKs_mem' hx hkid) hag q0 q1) hkids (by omega) (by omega)
        rw [rTerm, hb]
        simp only
        rw [if_neg (by omega), if_neg (by decide), if_neg (by decide), if_pos trivial, hmany]
        simp only
        rw [hs]
        simp only
        rw [hcan, hel, hsz]
        congr 3
        · omega
        · omega
      · have hk := leaf_k (okT_own ho) h4 h5
        rw [rTerm_leaf ho h4 h5 ha (by have := tsz_leaf hk; omega) hd, tsz_leaf hk]
        rfl

/-- Got, whatever follows. -/
theorem rGet_full {B : List UInt8} {t : T} {pos : Nat} (hc : chkB t = true) (ha : Ag B pos (enc t)) : rGet B pos = .ok (canon t, pos + (enc t).length, tsz t) := by
  obtain ⟨h1, h2⟩ := (chkB_ok t).1 hc
  have hl : (enc t).length ≤ B.length := by
    rcases ha.fits with h | h
    · omega
    · rw [h]; simp
  have := rTerm_full (B.length + 1) t 1 pos 0 (by omega) h1 ha (by omega) (by omega)
  rw [Int.zero_add] at this
  exact this

/-! ### cut -/

/-- What is read of the first c bytes: what was read, or: they end too soon. -/
def Cut {α : Type} (c : Nat) (p : Nat) (r' : Except Int α) (a : α) : Prop := r' = .error 3 ∨ (p ≤ c ∧ r' = .ok a)

theorem slc_cut {B : List UInt8} {c pos n : Nat} (h : pos + n ≤ c) : slc (B.take c) pos n = slc B pos n := by
  unfold slc
  rw [List.drop_take, List.take_take, Nat.min_eq_left (by omega)]
theorem rTake_cut {B : List UInt8} {c n pos : Nat} {l : List UInt8} (hc : c ≤ B.length) (h : rTake B n pos = .ok l) : Cut c (pos + n) (rTake (B.take c) n pos) l := by
  obtain ⟨h1, h2, h3⟩ := rTake_ok h
  have hl : (B.take c).length = c := by rw [List.length_take]; omega
  by_cases hp : pos + n ≤ c
  · exact .inr ⟨hp, by rw [rTake, hl, if_pos hp, slc_cut hp, h2]⟩
  · exact .inl (by rw [rTake, hl, if_neg hp])
theorem rMany_cut {B : List UInt8} {c k pos n : Nat} {least most : Int} (hc : c ≤ B.length) (h : rMany B k least most pos = .ok n) : Cut c (pos + k) (rMany (B.take c) k least most pos) n := by
  have hl : (B.take c).length = c := by rw [List.length_take]; omega
  have hle := (rMany_le h).1
  by_cases hp : pos + k ≤ c
  · refine .inr ⟨hp, ?_⟩
    unfold rMany at h ⊢
    rw [if_pos hle] at h
    rw [hl, if_pos hp, slc_cut hp, h]
  · exact .inl (by rw [rMany, hl, if_neg hp])

theorem rPre_cut {B : List UInt8} {c : Nat} {tag : UInt8} {pos : Nat} {t : T} {p : Nat} (hc : c ≤ B.length) (hpos : pos ≤ c) (h : rPre B tag pos = .ok (t, p)) : Cut c p (rPre (B.take c) tag pos) (t, p) := by
  unfold rPre at h ⊢
  by_cases c1 : tag = 97
  · rw [if_pos c1] at h ⊢
    cases hx : rTake B 1 pos with
    | error e => rw [hx] at h; cases h
    | ok l =>
      rw [hx] at h
      cases h
      rcases rTake_cut hc hx with e | ⟨e1, e2⟩
      · rw [e]; exact .inl rfl
      · rw [e2]; exact .inr ⟨e1, rfl⟩
  rw [if_neg c1] at h ⊢
  by_cases c2 : tag = 98
  · rw [if_pos c2] at h ⊢
    cases hx : rTake B 4 pos with
    | error e => rw [hx] at h; cases h
    | ok l =>
      rw [hx] at h
      cases h
      rcases rTake_cut hc hx with e | ⟨e1, e2⟩
      · rw [e]; exact .inl rfl
      · rw [e2]; exact .inr ⟨e1, rfl⟩
  rw [if_neg c2] at h ⊢
  by_cases c3 : tag = 110
  · rw [if_pos c3] at h ⊢
    cases hy : rMany B 1 1 48 pos with
    | error e => rw [hy] at h; cases h
    | ok n =>
      rw [hy] at h
      simp only at h
      cases hx : rTake B (1 + n) (pos + 1) with
      | error e => rw [hx] at h; cases h
      | ok l =>
        rw [hx] at h
        cases h
        rcases rMany_cut hc hy with e | ⟨_, e0⟩
        · rw [e]; exact .inl rfl
        · rw [e0]
          simp only
          rcases rTake_cut hc hx with e | ⟨e1, e2⟩
          · rw [e]; exact .inl rfl
          · rw [e2]; exact .inr ⟨e1, rfl⟩
  rw [if_neg c3] at h ⊢
  by_cases c4 : tag = 119
  · rw [if_pos c4] at h ⊢
    cases hy : rMany B 1 1 40 pos with
    | error e => rw [hy] at h; cases h
    | ok n =>
      rw [hy] at h
      simp only at h
      cases hx : rTake B n (pos + 1) with
      | error e => rw [hx] at h; cases h
      | ok l =>
        rw [hx] at h
        cases h
        rcases rMany_cut hc hy with e | ⟨_, e0⟩
        · rw [e]; exact .inl rfl
        · rw [e0]
          simp only
          rcases rTake_cut hc hx with e | ⟨e1, e2⟩
          · rw [e]; exact .inl rfl
          · rw [e2]; exact .inr ⟨e1, rfl⟩
  rw [if_neg c4] at h ⊢
  by_cases c5 : tag = 109
  · rw [if_pos c5] at h ⊢
    cases hy : rMany B 4 0 400 pos with
    | error e => rw [hy] at h; cases h
    | ok n =>
      rw [hy] at h
      simp only at h
      cases hx : rTake B n (pos + 4) with
      | error e => rw [hx] at h; cases h
      | ok l =>
        rw [hx] at h
        cases h
        rcases rMany_cut hc hy with e | ⟨_, e0⟩
        · rw [e]; exact .inl rfl
        · rw [e0]
          simp only
          rcases rTake_cut hc hx with e | ⟨e1, e2⟩
          · rw [e]; exact .inl rfl
          · rw [e2]; exact .inr ⟨e1, rfl⟩
  rw [if_neg c5] at h ⊢
  cases h
  exact .inr ⟨hpos, rfl⟩

theorem rSome_cut {c : Nat} {g g' : Nat → Int → Except Int (T × Nat × Int)} (hg : ∀ (pos : Nat) (terms : Int) (t : T) (p : Nat) (k : Int), pos ≤ c → g pos terms = .ok (t, p, k) → Cut c p (g' pos terms) (t, p, k)) :
    ∀ (n pos : Nat) (terms : Int) (l : List T) (p : Nat) (k : Int), pos ≤ c → rSome g n pos terms = .ok (l, p, k) → Cut c p (rSome g' n pos terms) (l, p, k)
  | 0, pos, terms, l, p, k, hp, h => by
    rw [rSome] at h ⊢
    cases h
    exact .inr ⟨hp, rfl⟩
  | n + 1, pos, terms, l, p, k, hp, h => by
    rw [rSome] at h ⊢
    cases hx : g pos terms with
    | error e => rw [hx] at h; cases h
    | ok b =>
      obtain ⟨t, p1, k1⟩ := b
      rw [hx] at h
      simp only at h
      cases hy : rSome g n p1 k1 with
      | error e => rw [hy] at h; cases h
      | ok b =>
        obtain ⟨l2, p2, k2⟩ := b
        rw [hy] at h
        simp only at h
        cases h
        rcases hg pos terms t p1 k1 hp hx with e | ⟨e1, e2⟩
        · rw [e]; exact .inl rfl
        · rw [e2]
          simp only
          rcases rSome_cut hg n p1 k1 l2 p k e1 hy with e | ⟨e3, e4⟩
          · rw [e]; exact .inl rfl
          · rw [e4]; exact .inr ⟨e3, rfl⟩

theorem rTerm_cut {B : List UInt8} {c : Nat} (hc : c ≤ B.length) : ∀ (m m' : Nat) (deep : Int) (pos : Nat) (terms : Int) (t : T) (p : Nat) (k : Int), pos ≤ c → rTerm B m deep pos terms = .ok (t, p, k) → Cut c p (rTerm (B.take c) m' deep pos terms) (t, p, k)
  | 0, m', deep, pos, terms, t, p, k, hp, h => by rw [rTerm] at h; cases h
  | m + 1, 0, deep, pos, terms, t, p, k, hp, h => .inl (by rw [rTerm])
  | m + 1, m' + 1, deep, pos, terms, t, p, k, hp, h => by
    have hl : (B.take c).length = c := by rw [List.length_take]; omega
    rw [rTerm] at h ⊢
    by_cases hpc : pos < c
    · have hb : (B.take c)[pos]? = B[pos]? := by rw [List.getElem?_take, if_pos hpc]
      rw [hb]
      cases ht : B[pos]? with
      | none => rw [ht] at h; cases h
      | some tag =>
        rw [ht] at h
        simp only at h ⊢
        by_cases c1 : terms + 1 > 2000 ∨ deep > 60
        · rw [if_pos c1] at h; cases h
        rw [if_neg c1] at h ⊢
        by_cases c2 : isPlain tag = true
        · rw [if_pos c2] at h ⊢
          unfold rPlain at h ⊢
          cases hx : rPre B tag (pos + 1) with
          | error e => rw [hx, rFin] at h; cases h
          | ok b =>
            obtain ⟨t1, p1⟩ := b
            rw [hx, rFin] at h
            split at h
            · rename_i hq
              cases h
              rcases rPre_cut hc (by omega) hx with e | ⟨e1, e2⟩
              · rw [e]; exact .inl rfl
              · have hge := (rPre_le (by omega) hx).1
                rw [e2, rFin, if_pos ⟨hq.1, by rw [slc_cut (by omega)]; exact hq.2⟩]
                exact .inr ⟨e1, rfl⟩
            · cases h
        rw [if_neg c2] at h ⊢
        by_cases c3 : tag = 108
        · rw [if_pos c3] at h ⊢
          cases hy : rMany B 4 1 (2000 - terms) (pos + 1) with
          | error e => rw [hy] at h; cases h
          | ok n =>
            rw [hy] at h
            simp only at h
            cases hs : rSome (rTerm B m (deep + 1)) n (pos + 5) (terms + n) with
            | error e => rw [hs] at h; cases h
            | ok b =>
              obtain ⟨l, p1, k1⟩ := b
              rw [hs] at h
              simp only at h
              cases hr : rTerm B m deep p1 k1 with
              | error e => rw [hr] at h; cases h
              | ok b =>
                obtain ⟨t2, p2, k2⟩ := b
                rw [hr] at h
                simp only at h
                split at h
                · cases h
                · rename_i hk4
                  cases h
                  rcases rMany_cut hc hy with e | ⟨e0, e1⟩
                  · rw [e]; exact .inl rfl
                  · rw [e1]
                    simp only
                    rcases rSome_cut (g := rTerm B m (deep + 1)) (g' := rTerm (B.take c) m' (deep + 1)) (fun q1 q2 q3 q4 q5 q6 q7 => rTerm_cut hc m m' (deep + 1) q1 q2 q3 q4 q5 q6 q7) n (pos + 5) (terms + n) l p1 k1 (by omega) hs with e | ⟨e2, e3⟩
                    · rw [e]; exact .inl rfl
                    · rw [e3]
                      simp only
                      rcases rTerm_cut hc m m' deep p1 k1 t2 p k e2 hr with e | ⟨e4, e5⟩
                      · rw [e]; exact .inl rfl
                      · rw [e5]
                        simp only
                        rw [if_neg hk4]
                        exact .inr ⟨e4, rfl⟩
        rw [if_neg c3] at h ⊢
        by_cases c4 : tag = 104
        · rw [if_pos c4] at h ⊢
          cases hy : rMany B 1 0 40 (pos + 1) with
          | error e => rw [hy] at h; cases h
          | ok n =>
            rw [hy] at h
            simp only at h
            cases hs : rSome (rTerm B m (deep + 1)) n (pos + 2) (terms + 1) with
            | error e => rw [hs] at h; cases h
            | ok b =>
              obtain ⟨l, p1, k1⟩ := b
              rw [hs] at h
              simp only at h
              cases h
              rcases rMany_cut hc hy with e | ⟨e0, e1⟩
              · rw [e]; exact .inl rfl
              · rw [e1]
                simp only
                rcases rSome_cut (g := rTerm B m (deep + 1)) (g' := rTerm (B.take c) m' (deep + 1)) (fun q1 q2 q3 q4 q5 q6 q7 => rTerm_cut hc m m' (deep + 1) q1 q2 q3 q4 q5 q6 q7) n (pos + 2) (terms + 1) l p k (by omega) hs with e | ⟨e2, e3⟩
                · rw [e]; exact .inl rfl
                · rw [e3]; exact .inr ⟨e2, rfl⟩
        rw [if_neg c4] at h
        cases h
    · have hb : (B.take c)[pos]? = none := List.getElem?_eq_none (by omega)
      rw [hb]
      exact .inl rfl

/-- Cut, it is short. -/
theorem rGet_cut {B : List UInt8} {t : T} {pos c : Nat} (hc : chkB t = true) (ha : Ag B pos (enc t)) (h1 : pos ≤ c) (h2 : c < pos + (enc t).length) (h3 : c ≤ B.length) : rGet (B.take c) pos = .error 3 := by
  have h := rGet_full hc ha
  unfold rGet at h ⊢
  rcases rTerm_cut h3 _ ((B.take c).length + 1) 1 pos 0 _ _ _ h1 h with e | ⟨e, _⟩
  · exact e
  · omega
end Go.Proofs.Ythbbollhojdjdaa
/- WALKS, 29: Light; Same of a term and of what is read for it. Conditions: sizes. -/
namespace Go.Proofs.Ythbbollhojdjdaa
open Go.Ab
set_option maxRecDepth 100000
set_option linter.unusedSimpArgs false
set_option linter.unusedVariables false

mutual
def lgt : T → Int → Int
  | .mk _ _ _ l s _ _ k, n => if l.length > 40 ∨ s.length > 500 then -1 else lgts k (n - 1)
def lgts : List T → Int → Int
  | [], n => n
  | t :: k, n => if n ≥ 0 then lgts k (lgt t n) else n
end
mutual
theorem lgt_bnd : ∀ (t : T) (n : Int), 0 ≤ n → -1 ≤ lgt t n ∧ lgt t n ≤ n
  | .mk kind neg ln l s m kn k, n, h => by
    rw [lgt]
    split
    · omega
    · have := lgts_bnd k (n - 1) (by omega)
      omega
theorem lgts_bnd : ∀ (k : List T) (n : Int), -1 ≤ n → -1 ≤ lgts k n ∧ lgts k n ≤ n
  | [], n, h => by rw [lgts]; omega
  | t :: k, n, h => by
    rw [lgts]
    split
    · rename_i h0
      have h1 := lgt_bnd t n h0
      have h2 := lgts_bnd k (lgt t n) h1.1
      omega
    · omega
end
theorem lgt_eq (t : T) (n : Int) : lgt t n = if t.l.length > 40 ∨ t.s.length > 500 then -1 else lgts t.k (n - 1) := by cases t; rw [lgt]; rfl

def LightSpec (m : Nat) : Prop := ∀ (t : T), blk t ≤ m → blk t ≤ 1000000000 → ∀ (n : Int), 0 ≤ n → n ≤ 2000 → FDoes Try.prog 26 [tA t, .int .i64 n] [none, none] [.v (.int .i64 (lgt t n))] [none, none] none

theorem light_step (m : Nat) (IH : LightSpec m) (t : T) (hm : blk t ≤ m + 1) (hb : blk t ≤ 1000000000) (n : Int) (hn1 : 0 ≤ n) (hn2 : n ≤ 2000) :
    FDoes Try.prog 26 [tA t, .int .i64 n] [none, none] [.v (.int .i64 (lgt t n))] [none, none] none := by
  have hlk := blks_len t.k
  have hbe := blk_eq t
  have wn : IntKind.i64.wrap (n - 1) = n - 1 := wrap64_id _ (by omega) (by omega)
  have heq := lgt_eq t n
  refine FDoes.of (E := env) ttok mixed Try.func26 (by kernel_rfl) rfl (by kernel_rfl) (rl := [.tmp 4]) rfl (Nat.le_of_ble_eq_true rfl) false ?_
  by_cases c1 : (t.l.length : Int) > 40
  · rw [if_pos (.inl (by omega))] at heq
    rw [heq]
    simp only [go_sem, W_cond, W_block, tA_eq, wn, c1]
  · by_cases c2 : (t.s.length : Int) > 500
    · rw [if_pos (.inr (by omega))] at heq
      rw [heq]
      simp only [go_sem, W_cond, W_block, tA_eq, wn, c1, c2]
    · rw [if_neg (by omega)] at heq
      simp only [go_sem, W_cond, W_block, tA_eq, wn, c1, c2]
      refine W_loop (fun (p : Nat × Int) st => p.1 ≤ t.k.length ∧ -1 ≤ p.2 ∧ p.2 ≤ 2000 ∧ lgt t n = lgts (t.k.drop p.1) p.2 ∧
          st.tm 1 = .int .i64 p.2 ∧ st.tm 2 = .ref (.loc 2 0 1) 0 ∧ st.tm 5 = .int .i64 p.1 ∧ st.hp (.loc 2 0 1) = some ⟨[.int .i64 t.kind, .bool t.neg, .sl t.ln 1 (lsl t.l) false, .str t.s, .int .i64 t.n, .sl t.kn 6 (tKs t.k) false], true⟩ ∧ st.hp (.arg 0) = none ∧ st.hp (.arg 1) = none) (fun p => t.k.length - p.1) (0, n - 1) ?_ ?_
      · simp only [go_sem, W_cond, W_block, List.drop_zero]
        exact ⟨by omega, by omega, heq⟩
      · rintro ⟨i, ni⟩ tm hp clk ⟨hi, hni1, hni2, hq, g1, g2, g5, h2, ha, ha1⟩
        replace g1 : tm 1 = _ := g1
        replace g2 : tm 2 = _ := g2
        replace g5 : tm 5 = _ := g5
        replace h2 : hp (.loc 2 0 1) = _ := h2
        replace ha : hp (.arg 0) = _ := ha
        replace ha1 : hp (.arg 1) = _ := ha1
        simp only at hi hni1 hni2 hq g1 g5
        by_cases hlt : i < t.k.length
        · have hlt' : (i : Int) < (t.k.length : Int) := by omega
          have hi0 : ¬ (i : Int) < 0 := by omega
          have hg : t.k[i]? = some t.k[i] := List.getElem?_eq_getElem hlt
          have hw : IntKind.i64.wrap ((i : Int) + 1) = ((i + 1 : Nat) : Int) := by rw [wrap64_id _ (by omega) (by omega)]; omega
          have hx := kid_blk (t := t) (x := t.k[i]) (List.getElem_mem hlt)
          have hd : t.k.drop i = t.k[i] :: t.k.drop (i + 1) := List.drop_eq_getElem_cons hlt
          rw [hd, lgts] at hq
          by_cases h0 : ni ≥ 0
          · rw [if_pos h0] at hq
            have hcall := IH t.k[i] (by omega) (by omega) ni h0 hni2
            have hbn := lgt_bnd t.k[i] ni h0
            simp only [go_sem, W_cond, W_block, g1, g2, g5, h2, ha, ha1, hlt', hi0, h0, tKs_get hg, tC_eq]
            have hc := hcall
            try simp only [go_sem, List.length_append, tA_eq] at hc
            refine WCallR_does hc (by rfl) (by rfl) ?_
            clear hc
            simp only [go_sem, W_cond, W_block, g1, g2, g5, h2, ha, ha1, hw]
            exact ⟨(i + 1, lgt t.k[i] ni), ⟨by show i + 1 ≤ _; omega, hbn.1, by show lgt t.k[i] ni ≤ _; omega, hq, rfl, rfl⟩, by show t.k.length - (i + 1) < _; omega⟩
          · rw [if_neg h0] at hq
            simp only [go_sem, W_cond, W_block, g1, g2, g5, h2, ha, ha1, hlt', h0, hq]
        · have hlt' : ¬ (i : Int) < (t.k.length : Int) := by omega
          rw [List.drop_eq_nil_of_le (by omega), lgts] at hq
          simp only [go_sem, W_cond, W_block, g1, g2, g5, h2, ha, ha1, hlt', hq]

theorem light_does : ∀ m, LightSpec m
  | 0 => fun t hm => by have := blk_pos t; omega
  | m + 1 => fun t hm hb n hn1 hn2 => light_step m (light_does m) t hm hb n hn1 hn2

theorem Light_does (t : T) (hb : blk t ≤ 1000000000) : FDoes Try.prog 8 [tA t, .int .i64 200] [none, none] [.v (.bool (decide (lgt t 200 ≥ 0)))] [none, none] none := by
  refine FDoes.of (E := env) ttok mixed Try.func8 (by kernel_rfl) rfl (by kernel_rfl) (rl := [.tmp 4]) rfl (Nat.le_of_ble_eq_true rfl) false ?_
  simp only [go_sem, W_cond, W_block, tA_eq]
  have hc := light_does (blk t) t (Nat.le_refl _) hb 200 (by omega) (by omega)
  try simp only [go_sem, List.length_append, tA_eq] at hc
  refine WCallR_does hc (by rfl) (by rfl) ?_
  clear hc
  simp only [go_sem, W_cond, W_block]

theorem sameNum_does (neg la lb : Bool) (l : List UInt32) (hl : l.length ≤ 1000000) : FDoes Try.prog 35 [numA neg la l, numA neg lb l] [none, none] [.v (.bool true)] [none, none] none := by
  have hnn : (neg != neg) = false := by cases neg <;> rfl
  have hll : ((l.length : Int) != (l.length : Int)) = false := by simp
  refine FDoes.of (E := env) ttok mixed Try.func35 (by kernel_rfl) rfl (by kernel_rfl) (rl := [.tmp 4]) rfl (Nat.le_of_ble_eq_true rfl) false ?_
  simp only [go_sem, W_cond, W_block, numA, hnn, hll]
  refine W_loop (fun (i : Nat) st => i ≤ l.length ∧ st.tm 2 = .ref (.loc 2 0 1) 0 ∧ st.tm 3 = .ref (.loc 3 1 1) 0 ∧ st.tm 5 = .int .i64 i ∧ st.hp (.loc 2 0 1) = some ⟨[.bool neg, .sl la 1 (lsl l) false], true⟩ ∧ st.hp (.loc 3 1 1) = some ⟨[.bool neg, .sl lb 1 (lsl l) false], true⟩ ∧ st.hp (.arg 0) = none ∧ st.hp (.arg 1) = none) (fun i => l.length - i) 0 ?_ ?_
  · simp only [go_sem, W_cond, W_block]
  · rintro i tm hp clk ⟨hi, g2, g3, g5, h2, h3, ha, ha1⟩
    replace g2 : tm 2 = _ := g2
    replace g3 : tm 3 = _ := g3
    replace g5 : tm 5 = _ := g5
    replace h2 : hp (.loc 2 0 1) = _ := h2
    replace h3 : hp (.loc 3 1 1) = _ := h3
    replace ha : hp (.arg 0) = _ := ha
    replace ha1 : hp (.arg 1) = _ := ha1
    by_cases hlt : i < l.length
    · have hlt' : (i : Int) < (l.length : Int) := by omega
      have hi0 : ¬ (i : Int) < 0 := by omega
      have hg : l[i]? = some l[i] := List.getElem?_eq_getElem hlt
      have hw : IntKind.i64.wrap ((i : Int) + 1) = ((i + 1 : Nat) : Int) := by rw [wrap64_id _ (by omega) (by omega)]; omega
      have hxx : ((l[i].toNat : Int) != (l[i].toNat : Int)) = false := by simp
      simp only [go_sem, W_cond, W_block, g2, g3, g5, h2, h3, ha, ha1, hlt', hi0, lsl_get hg, hxx, hw]
      exact ⟨i + 1, ⟨by omega, rfl⟩, by omega⟩
    · have hlt' : ¬ (i : Int) < (l.length : Int) := by omega
      simp only [go_sem, W_cond, W_block, g2, g3, g5, h2, h3, ha, ha1, hlt']


theorem canons_get {k : List T} {i : Nat} {x : T} (h : k[i]? = some x) : (canons k)[i]? = some (canon x) := by rw [canons_map, List.getElem?_map, h]; rfl
theorem canons_len (k : List T) : (canons k).length = k.length := by rw [canons_map, List.length_map]
theorem tA_canon (t : T) : tA (canon t) = .agg [.int .i64 t.kind, .bool t.neg, .sl (emp t.l) 1 (lsl t.l) false, .str t.s, .int .i64 t.n, .sl (emp t.k) 6 (tKs (canons t.k)) false] := by
  rw [canon_eq, tA_eq]; rfl
theorem okKs_mem {x : T} : ∀ {k : List T} {d : Int}, x ∈ k → okKs k d = true → okT x d = true
  | y :: k, d, h, hk => by
    rw [okKs, Bool.and_eq_true] at hk
    rcases List.mem_cons.1 h with rfl | h
    · exact hk.1
    · exact okKs_mem h hk.2
theorem okT_kid {t x : T} {d : Int} (h : okT t d = true) (hx : x ∈ t.k) : ∃ e, okT x e = true := by
  cases t with
  | mk kind neg ln l s n kn k =>
    rw [okT] at h
    simp only [Bool.and_eq_true] at h
    have h2 := h.2
    simp only [T.k] at hx
    split at h2
    · match k, h2, hx with
      | [a, b], h2, hx =>
        rw [okC, Bool.and_eq_true] at h2
        simp only [List.mem_cons, List.not_mem_nil, or_false] at hx
        rcases hx with rfl | rfl
        · exact ⟨_, h2.1⟩
        · exact ⟨_, h2.2⟩
    · exact ⟨_, okKs_mem hx h2⟩

def SameSpec (m : Nat) : Prop := ∀ (t : T), blk t ≤ m → blk t ≤ 1000000000 → ∀ (d : Int), okT t d = true → FDoes Try.prog 19 [tA (canon t), tA t] [none, none] [.v (.bool true)] [none, none] none

set_option maxHeartbeats 2000000 in
theorem same_step (m : Nat) (IH : SameSpec m) (t : T) (hm : blk t ≤ m + 1) (hb : blk t ≤ 1000000000) (d : Int) (ho : okT t d = true) :
    FDoes Try.prog 19 [tA (canon t), tA t] [none, none] [.v (.bool true)] [none, none] none := by
  have hown := okT_own ho
  have hkind : 1 ≤ t.kind ∧ t.kind ≤ 6 := by
    simp only [ownB, Bool.and_eq_true, decide_eq_true_eq] at hown
    exact hown.1
  have hlk := blks_len t.k
  have hbe := blk_eq t
  have hcl := canons_len t.k
  have hss : (t.s == t.s) = true := by simp
  rw [tA_canon t, tA_eq t]
  refine FDoes.of (E := env) ttok mixed Try.func19 (by kernel_rfl) rfl (by kernel_rfl) (rl := [.tmp 4]) rfl (Nat.le_of_ble_eq_true rfl) false ?_
  by_cases k1 : t.kind = 1
  · have hl12 := nchk_len (int_canon k1 hown).2
    have hc := sameNum_does t.neg (emp t.l) t.ln t.l (by omega)
    simp only [go_sem, W_cond, W_block, k1]
    have hc := hc
    try simp only [go_sem, List.length_append, numA] at hc
    refine WCallR_does hc (by rfl) (by rfl) ?_
    clear hc
    simp only [go_sem, W_cond, W_block]
  · by_cases k2 : t.kind = 2
    · simp only [go_sem, W_cond, W_block, k2, hss]
    · by_cases k6 : t.kind = 6
      · simp only [go_sem, W_cond, W_block, k6, hss]
      · by_cases k3 : t.kind = 3
        · simp only [go_sem, W_cond, W_block, k3]
        · have hlen0 : ((t.k.length : Int) != (t.k.length : Int)) = false := by simp
          have hJ : ∀ (st : St), True := fun _ => trivial
          clear hJ
          have k45 : t.kind = 4 ∨ t.kind = 5 := by omega
          rcases k45 with k4 | k5
          · simp only [go_sem, W_cond, W_block, k4, hcl, hlen0]
            refine W_loop (fun (i : Nat) st => i ≤ t.k.length ∧ st.tm 2 = .ref (.loc 2 0 1) 0 ∧ st.tm 3 = .ref (.loc 3 1 1) 0 ∧ st.tm 6 = .int .i64 i ∧ st.hp (.loc 2 0 1) = some ⟨[.int .i64 4, .bool t.neg, .sl (emp t.l) 1 (lsl t.l) false, .str t.s, .int .i64 t.n, .sl (emp t.k) 6 (tKs (canons t.k)) false], true⟩ ∧
              st.hp (.loc 3 1 1) = some ⟨[.int .i64 4, .bool t.neg, .sl t.ln 1 (lsl t.l) false, .str t.s, .int .i64 t.n, .sl t.kn 6 (tKs t.k) false], true⟩ ∧ st.hp (.arg 0) = none ∧ st.hp (.arg 1) = none) (fun i => t.k.length - i) 0 ?_ ?_
            · simp only [go_sem, W_cond, W_block]
            · rintro i tm hp clk ⟨hi, g2, g3, g6, h2, h3, ha, ha1⟩
              replace g2 : tm 2 = _ := g2
              replace g3 : tm 3 = _ := g3
              replace g6 : tm 6 = _ := g6
              replace h2 : hp (.loc 2 0 1) = _ := h2
              replace h3 : hp (.loc 3 1 1) = _ := h3
              replace ha : hp (.arg 0) = _ := ha
              replace ha1 : hp (.arg 1) = _ := ha1
              by_cases hlt : i < t.k.length
              · have hlt' : (i : Int) < (t.k.length : Int) := by omega
                have hi0 : ¬ (i : Int) < 0 := by omega
                have hg : t.k[i]? = some t.k[i] := List.getElem?_eq_getElem hlt
                have hgc := canons_get hg
                have hw : IntKind.i64.wrap ((i : Int) + 1) = ((i + 1 : Nat) : Int) := by rw [wrap64_id _ (by omega) (by omega)]; omega
                have hx := kid_blk (t := t) (x := t.k[i]) (List.getElem_mem hlt)
                obtain ⟨e, he⟩ := okT_kid ho (List.getElem_mem hlt)
                have hcall := IH t.k[i] (by omega) (by omega) e he
                simp only [go_sem, W_cond, W_block, g2, g3, g6, h2, h3, ha, ha1, hcl, hlt', hi0, tKs_get hg, tKs_get hgc, tC_eq]
                have hc := hcall
                try simp only [go_sem, List.length_append, tA_eq] at hc
                refine WCallDR_does hc (by rfl) (by rfl) ?_
                clear hc
                simp only [go_sem, W_cond, W_block, g2, g3, g6, h2, h3, ha, ha1, hw]
                exact ⟨i + 1, ⟨by omega, rfl⟩, by omega⟩
              · have hlt' : ¬ (i : Int) < (t.k.length : Int) := by omega
                simp only [go_sem, W_cond, W_block, g2, g3, g6, h2, h3, ha, ha1, hcl, hlt']
          · simp only [go_sem, W_cond, W_block, k5, hcl, hlen0]
            refine W_loop (fun (i : Nat) st => i ≤ t.k.length ∧ st.tm 2 = .ref (.loc 2 0 1) 0 ∧ st.tm 3 = .ref (.loc 3 1 1) 0 ∧ st.tm 6 = .int .i64 i ∧ st.hp (.loc 2 0 1) = some ⟨[.int .i64 5, .bool t.neg, .sl (emp t.l) 1 (lsl t.l) false, .str t.s, .int .i64 t.n, .sl (emp t.k) 6 (tKs (canons t.k)) false], true⟩ ∧
              st.hp (.loc 3 1 1) = some ⟨[.int .i64 5, .bool t.neg, .sl t.ln 1 (lsl t.l) false, .str t.s, .int .i64 t.n, .sl t.kn 6 (tKs t.k) false], true⟩ ∧ st.hp (.arg 0) = none ∧ st.hp (.arg 1) = none) (fun i => t.k.length - i) 0 ?_ ?_
            · simp only [go_sem, W_cond, W_block]
            · rintro i tm hp clk ⟨hi, g2, g3, g6, h2, h3, ha, ha1⟩
              replace g2 : tm 2 = _ := g2
              replace g3 : tm 3 = _ := g3
              replace g6 : tm 6 = _ := g6
              replace h2 : hp (.loc 2 0 1) = _ := h2
              replace h3 : hp (.loc 3 1 1) = _ := h3
              replace ha : hp (.arg 0) = _ := ha
              replace ha1 : hp (.arg 1) = _ := ha1
              by_cases hlt : i < t.k.length
              · have hlt' : (i : Int) < (t.k.length : Int) := by omega
                have hi0 : ¬ (i : Int) < 0 := by omega
                have hg : t.k[i]? = some t.k[i] := List.getElem?_eq_getElem hlt
                have hgc := canons_get hg
                have hw : IntKind.i64.wrap ((i : Int) + 1) = ((i + 1 : Nat) : Int) := by rw [wrap64_id _ (by omega) (by omega)]; omega
                have hx := kid_blk (t := t) (x := t.k[i]) (List.getElem_mem hlt)
                obtain ⟨e, he⟩ := okT_kid ho (List.getElem_mem hlt)
                have hcall := IH t.k[i] (by omega) (by omega) e he
                simp only [go_sem, W_cond, W_block, g2, g3, g6, h2, h3, ha, ha1, hcl, hlt', hi0, tKs_get hg, tKs_get hgc, tC_eq]
                have hc := hcall
                try simp only [go_sem, List.length_append, tA_eq] at hc
                refine WCallDR_does hc (by rfl) (by rfl) ?_
                clear hc
                simp only [go_sem, W_cond, W_block, g2, g3, g6, h2, h3, ha, ha1, hw]
                exact ⟨i + 1, ⟨by omega, rfl⟩, by omega⟩
              · have hlt' : ¬ (i : Int) < (t.k.length : Int) := by omega
                simp only [go_sem, W_cond, W_block, g2, g3, g6, h2, h3, ha, ha1, hcl, hlt']

theorem same_does : ∀ m, SameSpec m
  | 0 => fun t hm => by have := blk_pos t; omega
  | m + 1 => fun t hm hb d ho => same_step m (same_does m) t hm hb d ho
end Go.Proofs.Ythbbollhojdjdaa
/- WALKS, 30: ExtBack. Conditions: sizes. -/
namespace Go.Proofs.Ythbbollhojdjdaa
open Go.Ab
set_option maxRecDepth 100000
set_option linter.unusedSimpArgs false
set_option linter.unusedVariables false

theorem tA_T0' : tA T0 = .agg [.int .i64 0, .bool false, .sl true 1 [] false, .str [], .int .i64 0, .sl true 6 [] false] := by rw [tA, tC_T0]
theorem bce_length' (b : List UInt8) : (bce b).length = b.length := bce_length b

theorem bsl_take' (b : List UInt8) (n : Nat) : (bsl b).take n = bsl (b.take n) := by simp [bsl]

/-- A copy of bytes, as an object of the caller's own. -/
theorem Bytes_own (n f : Bool) (b : List UInt8) (hne : b ≠ []) (hb : b.length ≤ 1000000000) : FDoes Try.prog 17 [.sl n 1 (bsl b) f] [none] [.ex 0 b.length 1] [none] (some ⟨bce b, true⟩) := by
  have h0 : ¬ b.length = 0 := by simpa using hne
  have h1 : b.length ≤ 140737488355328 := by omega
  refine FDoes.of (E := env) ttok mixed Try.func17 (by kernel_rfl) rfl (by kernel_rfl) (rl := [.tmp 2]) rfl (Nat.le_of_ble_eq_true rfl) true ?_
  simp only [go_sem, W_cond, W_block, h0, h1]

theorem ExtBack_does (t : T) (hb : blk t ≤ 1000000000) (pn : Bool) (pre : List UInt8) (hpn : pn = true → pre = []) (hp : pre.length ≤ 100000000) (a : Int) :
    FDoes Try.prog 4 [tA t, .sl pn 1 (bsl pre) false, .int .i64 a] [none, none, none] [.v (.bool true)] [none, none, none] none := by
  have hchk := rCheck_does t hb
  refine FDoes.of (E := env) ttok mixed Try.func4 (by kernel_rfl) rfl (by kernel_rfl) (rl := [.tmp 6]) rfl (Nat.le_of_ble_eq_true rfl) false ?_
  cases hc : chkB t with
  | false =>
    rw [hc] at hchk
    simp only [go_sem, W_cond, W_block, tA_eq]
    have hc := hchk
    try simp only [go_sem, List.length_append, tA_eq] at hc
    refine WCallR_does hc (by rfl) (by rfl) ?_
    clear hc
    simp only [go_sem, W_cond, W_block]
    have hc := awake_does
    try simp only [go_sem, List.length_append] at hc
    refine WCallR_does hc (by rfl) (by rfl) ?_
    clear hc
    simp only [go_sem, W_cond, W_block]
  | true =>
    rw [hc] at hchk
    have hlight := Light_does t hb
    cases hL : decide (lgt t 200 ≥ 0) with
    | false =>
      rw [hL] at hlight
      simp only [go_sem, W_cond, W_block, tA_eq]
      have hc := hchk
      try simp only [go_sem, List.length_append, tA_eq] at hc
      refine WCallR_does hc (by rfl) (by rfl) ?_
      clear hc
      simp only [go_sem, W_cond, W_block]
      have hc := hlight
      try simp only [go_sem, List.length_append, tA_eq] at hc
      refine WCallR_does hc (by rfl) (by rfl) ?_
      clear hc
      simp only [go_sem, W_cond, W_block]
      have hc := awake_does
      try simp only [go_sem, List.length_append] at hc
      refine WCallR_does hc (by rfl) (by rfl) ?_
      clear hc
      simp only [go_sem, W_cond, W_block]
    | true =>
      rw [hL] at hlight
      obtain ⟨hok, hsz⟩ := (chkB_ok t).1 hc
      obtain ⟨_, _, hle⟩ := chkB_all hc
      have hput := Put_does false 1 true [7] (.inr rfl) t (by simp) hc
      have hcan := same_does (blk t) t (Nat.le_refl _) hb 1 hok
      have h7 : AV.int .u8 7 = ofByte 7 := rfl
      obtain ⟨x, E', hEc⟩ : ∃ x E', enc t = x :: E' := by
        by_cases h4 : t.kind = 4
        · exact ⟨_, _, enc_cons h4⟩
        · by_cases h5 : t.kind = 5
          · exact ⟨_, _, enc_tuple h5⟩
          · obtain ⟨tag, E, he, _, _⟩ := rPre_leaf_ok hok h4 h5 (B := enc t) (pos := 0) (fun i x hx => by rwa [Nat.zero_add])
            exact ⟨tag, E, he⟩
      obtain ⟨e, he⟩ : ∃ e, e = (enc t).length := ⟨_, rfl⟩
      have he0 : 0 < e := by rw [he, hEc]; simp
      rw [← he] at hle
      obtain ⟨B, hB⟩ : ∃ B, B = [7] ++ enc t := ⟨_, rfl⟩
      have hBl : B.length = e + 1 := by rw [hB, List.length_append, ← he]; simp; omega
      have hag : ∀ F, Ag (B ++ F) 1 (enc t) := by
        intro F i y hy
        have hi := (List.getElem?_eq_some_iff.1 hy).1
        rw [hB, List.append_assoc, List.getElem?_append_right (by simp), List.getElem?_append_left (by simp; omega)]
        simpa using hy
      rw [← hB] at hput
      have hbytes := Bytes_own false false B (by rw [hB]; simp) (by omega)
      have hs : bce B ++ bce pre = bce (B ++ pre) := by rw [bce_append]
      have hg1 := rGet_full hc (hag pre)
      have hget1 := Get_does false (B ++ pre) (fun h => by cases h) (by rw [List.length_append]; omega) 1 (by rw [List.length_append]; omega)
      rw [hg1] at hget1
      simp only [getT, getP, getE] at hget1
      rw [show ((1 : Nat) : Int) = 1 from rfl] at hget1
      obtain ⟨c0, hc0⟩ : ∃ c0 : Nat, a % (e : Int) = (c0 : Int) := ⟨(a % (e : Int)).toNat, by have := Int.emod_nonneg a (b := (e : Int)) (by omega); omega⟩
      have hc1 : c0 < e := by have := Int.emod_lt_of_pos a (b := (e : Int)) (by omega); omega
      have hplace := Place_does a e (by omega) (by omega)
      rw [hc0] at hplace
      have hg2 := rGet_cut (B := B) (c := 1 + c0) hc (by have := hag []; rwa [List.append_nil] at this) (by omega) (by omega) (by omega)
      have hB2l : (B.take (1 + c0)).length = 1 + c0 := by rw [List.length_take]; omega
      have hget2 := Get_does false (B.take (1 + c0)) (fun h => by cases h) (by omega) 1 (by omega)
      rw [hg2] at hget2
      simp only [getT, getP, getE, tA_T0'] at hget2
      rw [show ((1 : Nat) : Int) = 1 from rfl] at hget2
      obtain ⟨L, hL⟩ : ∃ L, B.length + pre.length = L := ⟨_, rfl⟩
      have hLl : (B ++ pre).length = L := by rw [List.length_append, hL]
      have hch := chunk_bce (B ++ pre)
      rw [hLl] at hch
      have htk : (bce (B ++ pre)).take L = bce (B ++ pre) := List.take_of_length_le (by rw [bce_length, hLl]; exact Nat.le_refl _)
      have hll : (bce (B ++ pre)).length = L := by rw [bce_length, hLl]
      have hbnd : L ≤ 140737488355328 := by omega
      have hb2 : ¬ (B.length : Int) < 2 := by omega
      have w1 : IntKind.i64.wrap ((B.length : Int) - 1) = (e : Int) := by rw [wrap64_id _ (by omega) (by omega)]; omega
      have w2 : IntKind.i64.wrap (1 + (c0 : Int)) = ((1 + c0 : Nat) : Int) := by rw [wrap64_id _ (by omega) (by omega)]; omega
      have q1 : ¬ ((1 + c0 : Nat) : Int) < 0 := by omega
      have q2 : 1 + c0 ≤ B.length := by omega
      have q3 : ((1 + e : Nat) : Int) = (B.length : Int) := by omega
      rw [← he] at hget1
      rw [q3] at hget1
      simp only [go_sem, W_cond, W_block, tA_eq]
      have hc := hchk
      try simp only [go_sem, List.length_append, tA_eq] at hc
      refine WCallR_does hc (by rfl) (by rfl) ?_
      clear hc
      simp only [go_sem, W_cond, W_block]
      have hc := hlight
      try simp only [go_sem, List.length_append, tA_eq] at hc
      refine WCallR_does hc (by rfl) (by rfl) ?_
      clear hc
      simp only [go_sem, W_cond, W_block, h7]
      have hc := hput
      try simp only [go_sem, List.length_append, bsl_cons, bsl_nil, tA_eq] at hc
      refine WCallR_does hc (by rfl) (by rfl) ?_
      clear hc
      simp only [go_sem, W_cond, W_block, hb2]
      have hc := hbytes
      try simp only [go_sem, List.length_append] at hc
      refine WCallR_does hc (by rfl) (by rfl) ?_
      clear hc
      simp only [go_sem, W_cond, W_block, hs, hL, hLl, hll, hch, htk, hbnd]
      have hc := hget1
      try simp only [go_sem, List.length_append, tA_eq] at hc
      refine WCallR_does hc (by rfl) (by rfl) ?_
      clear hc
      simp only [go_sem, W_cond, W_block, w1]
      have hc := hplace
      try simp only [go_sem, List.length_append] at hc
      refine WCallR_does hc (by rfl) (by rfl) ?_
      clear hc
      simp only [go_sem, W_cond, W_block, w2, q1, q2, bsl_take']
      have hc := hget2
      try simp only [go_sem, List.length_append] at hc
      refine WCallR_does hc (by rfl) (by rfl) ?_
      clear hc
      simp only [go_sem, W_cond, W_block]
      have hc := hcan
      try simp only [go_sem, List.length_append, tA_eq] at hc
      refine WCallR_does hc (by rfl) (by rfl) ?_
      clear hc
      simp only [go_sem, W_cond, W_block]
      have hc := awake_does
      try simp only [go_sem, List.length_append] at hc
      refine WCallR_does hc (by rfl) (by rfl) ?_
      clear hc
      simp only [go_sem, W_cond, W_block]
end Go.Proofs.Ythbbollhojdjdaa
