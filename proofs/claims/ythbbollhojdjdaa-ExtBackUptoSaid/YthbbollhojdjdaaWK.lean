/- WALKS, 20: the document's answer: may a number, a term be? Conditions: none. -/
import Derived.Test.YthbbollhojdjdaaWJ
namespace Go.Proofs.Ythbbollhojdjdaa
open Go.Ab
set_option maxRecDepth 100000
set_option linter.unusedSimpArgs false
set_option linter.unusedVariables false

theorem check2_does (neg ln : Bool) (l : List UInt32) : FDoes Try.prog 87 [numA neg ln l] [none] [.v (.bool (nchk neg l))] [none] none := by
  refine FDoes.of (E := env) ttok mixed Try.func87 (by kernel_rfl) rfl (by kernel_rfl) (rl := [.tmp 2]) rfl (Nat.le_of_ble_eq_true rfl) false ?_
  by_cases hk : l.length ≤ 12
  · cases l with
    | nil =>
      cases neg <;> simp only [go_sem, W_cond, W_block, numA, nchk, List.getLast?_nil]
    | cons a r =>
      have hl : ¬ ((a :: r).length : Int) = 0 := by simp only [List.length_cons]; omega
      have hp : ((a :: r).length : Int) > 0 := by simp
      have hg := lsl_get (last_get (l := a :: r) (by simp))
      have hlast : (a :: r).getLast? = some ((a :: r).getLast (by simp)) := List.getLast?_eq_some_getLast (by simp)
      generalize (a :: r).getLast (by simp) = x at hg hlast
      generalize a :: r = l at *
      have hw : IntKind.i64.wrap ((l.length : Int) - 1) = (l.length : Int) - 1 := wrap64_id _ (by omega) (by omega)
      have hn : ¬ ((l.length : Int) - 1 < 0) := by omega
      have hq : ((l.length : Int) - 1).toNat = l.length - 1 := by omega
      have hk' : (l.length : Int) ≤ 12 := by omega
      simp only [go_sem, W_cond, W_block, numA, nchk, hlast, hl, hp, hw, hn, hq, hg, hk, hk', u32_eq_zero]
  · have hk' : ¬ (l.length : Int) ≤ 12 := by omega
    simp only [go_sem, W_cond, W_block, numA, nchk, hk, hk']

theorem W_cutseq {P : Program} {E : Env} {a b : Code} {st : St} {Q : Exit → St → Prop} (J : St → Prop) (h1 : W P E a st (CutK J Q)) (h2 : ∀ tm hp clk, J ⟨tm, hp, clk⟩ → W P E b ⟨tm, hp, clk⟩ Q) : W P E (.seq a b) st Q :=
  W_mono a (fun e st' h => by
    cases e with
    | normal => obtain ⟨tm, hp, clk⟩ := st'; exact h2 tm hp clk h
    | _ => exact h) h1

def badF (t : T) : Bool := decide (¬ t.n = 0) || (decide (¬ t.kind = 1) && !zeroB t.neg t.l) || (decide (¬ t.kind = 2) && (decide (¬ t.kind = 6) && decide (¬ t.s = [])))

theorem badF_true {t : T} (h : badF t = true) : ownB t = false := by
  cases ho : ownB t with
  | false => rfl
  | true =>
    exfalso
    simp only [ownB, Bool.and_eq_true, decide_eq_true_eq] at ho
    obtain ⟨⟨_, _⟩, ⟨⟨hI, hS⟩, _⟩, hn⟩ := ho
    simp only [badF, Bool.or_eq_true, Bool.and_eq_true, decide_eq_true_eq, Bool.not_eq_true'] at h
    rcases h with (h | ⟨h1, h2⟩) | ⟨h1, h2, h3⟩
    · exact h hn
    · rw [ownI, if_neg h1] at hI; rw [hI] at h2; cases h2
    · rw [ownS, if_neg h1, if_neg h2] at hS; exact h3 (by simpa using hS)

theorem badF_false {t : T} (h : badF t = false) : t.n = 0 ∧ (¬ t.kind = 1 → zeroB t.neg t.l = true) ∧ (¬ t.kind = 2 → ¬ t.kind = 6 → t.s = []) := by
  simp only [badF, Bool.or_eq_false_iff, Bool.and_eq_false_iff, decide_eq_false_iff_not, Bool.not_eq_false'] at h
  obtain ⟨⟨h1, h2⟩, h3⟩ := h
  refine ⟨by simpa using h1, fun hk => ?_, fun hk hk' => ?_⟩
  · rcases h2 with h2 | h2
    · exact absurd hk h2
    · exact h2
  · rcases h3 with h3 | h3 | h3
    · exact absurd hk h3
    · exact absurd hk' h3
    · simpa using h3

/-- A term's fields. -/
theorem fields_does (t : T) (hbig' : t.s.length ≤ 9223372036854775806) : FDoes Try.prog 68 [tA t] [none] [.v (.bool (ownB t))] [none] none := by
  refine FDoes.of (E := env) ttok mixed Try.func68 (by kernel_rfl) rfl (by kernel_rfl) (rl := [.tmp 2]) rfl (Nat.le_of_ble_eq_true rfl) false ?_
  have len0 : ((t.k.length : Int) = 0) = (t.k.length = 0) := by apply propext; omega
  have len2 : ((t.k.length : Int) = 2) = (t.k.length = 2) := by apply propext; omega
  have len40 : ((t.k.length : Int) ≤ 40) = (t.k.length ≤ 40) := by apply propext; omega
  have len400 : ((t.s.length : Int) ≤ 400) = (t.s.length ≤ 400) := by apply propext; omega
  rw [tA_eq]
  refine W_cutseq (fun st => st.tm 1 = .ref (.loc 1 0 1) 0 ∧ st.hp (.loc 1 0 1) = some ⟨[.int .i64 t.kind, .bool t.neg, .sl t.ln 1 (lsl t.l) false, .str t.s, .int .i64 t.n, .sl t.kn 6 (tKs t.k) false], true⟩ ∧ st.hp (.arg 0) = none) ?_ ?_
  · simp only [go_sem, W_cond, W_block]
  rintro tm hp clk ⟨g1, h1, ha⟩
  replace g1 : tm 1 = _ := g1
  replace h1 : hp (.loc 1 0 1) = _ := h1
  replace ha : hp (.arg 0) = _ := ha
  refine W_cutseq (fun st => st.tm 1 = .ref (.loc 1 0 1) 0 ∧ st.tm 3 = .bool (zeroB t.neg t.l) ∧ st.hp (.loc 1 0 1) = some ⟨[.int .i64 t.kind, .bool t.neg, .sl t.ln 1 (lsl t.l) false, .str t.s, .int .i64 t.n, .sl t.kn 6 (tKs t.k) false], true⟩ ∧ st.hp (.arg 0) = none) ?_ ?_
  · by_cases q1 : (t.l.length : Int) = 0
    · have q1' : t.l.length = 0 := by omega
      cases h2 : t.neg <;> simp only [go_sem, W_cond, W_block, g1, h1, ha, q1, h2, zeroB, q1']
    · have q1' : ¬ t.l.length = 0 := by omega
      cases h2 : t.neg <;> simp only [go_sem, W_cond, W_block, g1, h1, ha, q1, h2, zeroB, q1']
  · clear g1 h1 ha tm hp clk
    rintro tm hp clk ⟨g1, g3, h1, ha⟩
    replace g1 : tm 1 = _ := g1
    replace g3 : tm 3 = _ := g3
    replace h1 : hp (.loc 1 0 1) = _ := h1
    replace ha : hp (.arg 0) = _ := ha
    refine W_cutseq (fun st => badF t = false ∧ st.tm 1 = .ref (.loc 1 0 1) 0 ∧ st.hp (.loc 1 0 1) = some ⟨[.int .i64 t.kind, .bool t.neg, .sl t.ln 1 (lsl t.l) false, .str t.s, .int .i64 t.n, .sl t.kn 6 (tKs t.k) false], true⟩ ∧ st.hp (.arg 0) = none) ?_ ?_
    · refine W_cutseq (fun st => st.tm 42 = .bool (badF t) ∧ st.tm 1 = .ref (.loc 1 0 1) 0 ∧ st.hp (.loc 1 0 1) = some ⟨[.int .i64 t.kind, .bool t.neg, .sl t.ln 1 (lsl t.l) false, .str t.s, .int .i64 t.n, .sl t.kn 6 (tKs t.k) false], true⟩ ∧ st.hp (.arg 0) = none) ?_ ?_
      · by_cases hn : t.n = 0
        · by_cases k1 : t.kind = 1
          · by_cases hs : t.s = [] <;> simp only [go_sem, W_cond, W_block, g1, g3, h1, ha, hn, k1, hs, badF]
          · cases hz : zeroB t.neg t.l with
            | false => simp only [go_sem, W_cond, W_block, g1, g3, h1, ha, hn, k1, hz, badF]
            | true =>
              by_cases k2 : t.kind = 2
              · simp only [go_sem, W_cond, W_block, g1, g3, h1, ha, hn, k1, hz, k2, badF]
              · by_cases k6 : t.kind = 6
                · simp only [go_sem, W_cond, W_block, g1, g3, h1, ha, hn, k1, hz, k2, k6, badF]
                · by_cases hs : t.s = [] <;> simp only [go_sem, W_cond, W_block, g1, g3, h1, ha, hn, k1, hz, k2, k6, hs, badF]
        · simp only [go_sem, W_cond, W_block, g1, g3, h1, ha, hn, badF]
      · clear g1 g3 h1 ha tm hp clk
        rintro tm hp clk ⟨g42, g1, h1, ha⟩
        replace g42 : tm 42 = _ := g42
        replace g1 : tm 1 = _ := g1
        replace h1 : hp (.loc 1 0 1) = _ := h1
        replace ha : hp (.arg 0) = _ := ha
        cases hb : badF t with
        | true =>
          have ho := badF_true hb
          simp only [go_sem, W_cond, W_block, g42, g1, h1, ha, hb, ho]
        | false => simp only [go_sem, W_cond, W_block, g42, g1, h1, ha, hb]
    · clear g1 g3 h1 ha tm hp clk
      rintro tm hp clk ⟨hb, g1, h1, ha⟩
      replace g1 : tm 1 = _ := g1
      replace h1 : hp (.loc 1 0 1) = _ := h1
      replace ha : hp (.arg 0) = _ := ha
      · obtain ⟨hn, hz, hs⟩ := badF_false hb
        by_cases k1 : t.kind = 1
        · simp only [go_sem, W_cond, W_block, g1, h1, ha, k1]
          have hc := check2_does t.neg t.ln t.l
          try simp only [go_sem, List.length_append, numA] at hc
          refine WCallR_does hc (by rfl) (by rfl) ?_
          clear hc
          have ho : ownB t = (nchk t.neg t.l && decide (t.k.length = 0)) := by
            have hs' := hs (by omega) (by omega)
            simp [ownB, ownI, ownS, ownK, k1, hn, hs']
          cases hc : nchk t.neg t.l <;> simp only [go_sem, W_cond, W_block, g1, h1, ha, hc, ho, len0]
        · have hz' := hz k1
          by_cases k2 : t.kind = 2
          · simp only [go_sem, W_cond, W_block, g1, h1, ha, k2]
            have ho : ownB t = (nameB t.s && decide (t.k.length = 0)) := by simp [ownB, ownI, ownS, ownK, k2, hn, hz']
            rw [ho]
            refine W_loop (fun (i : Nat) st => i ≤ t.s.length ∧ st.tm 1 = .ref (.loc 1 0 1) 0 ∧ st.tm 4 = .int .i64 i ∧ (t.s.take i).all okByte = true ∧ st.hp (.loc 1 0 1) = some ⟨[.int .i64 t.kind, .bool t.neg, .sl t.ln 1 (lsl t.l) false, .str t.s, .int .i64 t.n, .sl t.kn 6 (tKs t.k) false], true⟩ ∧ st.hp (.arg 0) = none) (fun i => t.s.length - i) 0 ?_ ?_
            · simp only [go_sem, W_cond, W_block, g1, h1, ha]
            · clear g1 h1 ha tm hp clk
              rintro i tm hp clk ⟨hi, g1, g4, hall, h1, ha⟩
              replace g1 : tm 1 = _ := g1
              replace g4 : tm 4 = _ := g4
              replace h1 : hp (.loc 1 0 1) = _ := h1
              replace ha : hp (.arg 0) = _ := ha
              by_cases hlt : i < t.s.length
              · have hlt' : (i : Int) < (t.s.length : Int) := by omega
                have hg : t.s[i]? = some t.s[i] := List.getElem?_eq_getElem hlt
                have hi0 : ¬ (i : Int) < 0 := by omega
                have hbad : ¬ (33 ≤ t.s[i].toNat ∧ t.s[i].toNat ≤ 126) → nameB t.s = false := by
                  intro h
                  cases hh : nameB t.s with
                  | false => rfl
                  | true =>
                    simp only [nameB, Bool.and_eq_true] at hh
                    have := List.all_eq_true.1 hh.2 t.s[i] (List.getElem_mem hlt)
                    simp only [okByte, decide_eq_true_eq] at this
                    exact absurd this h
                by_cases q1 : (t.s[i].toNat : Int) < 33
                · have hb := hbad (by omega)
                  simp only [go_sem, W_cond, W_block, g1, g4, h1, ha, hlt', hi0, hg, ofByte, q1, hb]
                · by_cases q2 : (t.s[i].toNat : Int) > 126
                  · have hb := hbad (by omega)
                    simp only [go_sem, W_cond, W_block, g1, g4, h1, ha, hlt', hi0, hg, ofByte, q1, q2, hb]
                  · have hw : IntKind.i64.wrap ((i : Int) + 1) = ((i + 1 : Nat) : Int) := by rw [wrap64_id _ (by omega) (by omega)]; omega
                    simp only [go_sem, W_cond, W_block, g1, g4, h1, ha, hlt', hi0, hg, ofByte, q1, q2, hw]
                    refine ⟨i + 1, ⟨by omega, rfl, ?_⟩, by omega⟩
                    rw [List.take_add_one, hg]
                    simp only [Option.toList_some, List.all_append, hall, List.all_cons, List.all_nil, Bool.true_and, Bool.and_true, okByte, decide_eq_true_eq]
                    omega
              · have hlt' : ¬ (i : Int) < (t.s.length : Int) := by omega
                have hi : i = t.s.length := by omega
                subst hi
                rw [List.take_length] at hall
                by_cases q1 : (t.s.length : Int) ≥ 1
                · by_cases q2 : (t.s.length : Int) ≤ 40
                  · have q3 : 1 ≤ t.s.length ∧ t.s.length ≤ 40 := by omega
                    simp only [go_sem, W_cond, W_block, g1, g4, h1, ha, hlt', q1, q2, nameB, hall, q3, len0]
                  · have q3 : ¬ (1 ≤ t.s.length ∧ t.s.length ≤ 40) := by omega
                    simp only [go_sem, W_cond, W_block, g1, g4, h1, ha, hlt', q1, q2, nameB, q3]
                · have q3 : ¬ (1 ≤ t.s.length ∧ t.s.length ≤ 40) := by omega
                  simp only [go_sem, W_cond, W_block, g1, g4, h1, ha, hlt', q1, nameB, q3]
          · by_cases k3 : t.kind = 3
            · have hs' := hs (by omega) (by omega)
              simp only [go_sem, W_cond, W_block, g1, h1, ha, k3, len0, ownB, ownI, ownS, ownK, hn, hz', hs']
            · by_cases k4 : t.kind = 4
              · have hs' := hs (by omega) (by omega)
                simp only [go_sem, W_cond, W_block, g1, h1, ha, k4, len2, ownB, ownI, ownS, ownK, hn, hz', hs']
              · by_cases k5 : t.kind = 5
                · have hs' := hs (by omega) (by omega)
                  simp only [go_sem, W_cond, W_block, g1, h1, ha, k5, len40, ownB, ownI, ownS, ownK, hn, hz', hs']
                · by_cases k6 : t.kind = 6
                  · by_cases hl : t.s.length ≤ 400
                    · simp only [go_sem, W_cond, W_block, g1, h1, ha, k6, len400, len0, ownB, ownI, ownS, ownK, hn, hz', hl]
                    · simp only [go_sem, W_cond, W_block, g1, h1, ha, k6, len400, len0, ownB, ownI, ownS, ownK, hn, hz', hl]
                  · have hk : ¬ (1 ≤ t.kind ∧ t.kind ≤ 6) := by omega
                    simp only [go_sem, W_cond, W_block, g1, h1, ha, k1, k2, k3, k4, k5, k6, ownB, hk]

mutual
/-- How much a term bears. -/
def blk : T → Nat
  | .mk _ _ _ l s _ _ k => 1 + l.length + s.length + blks k
def blks : List T → Nat
  | [] => 0
  | t :: k => blk t + blks k
end
theorem blk_eq (t : T) : blk t = 1 + t.l.length + t.s.length + blks t.k := by cases t; rw [blk]; rfl
theorem blks_mem {x : T} : ∀ {k : List T}, x ∈ k → blk x ≤ blks k
  | t :: k, h => by
    rw [blks]
    rcases List.mem_cons.1 h with rfl | h
    · omega
    · have := blks_mem h; omega
theorem blk_pos (t : T) : 0 < blk t := by rw [blk_eq]; omega
theorem kid_blk {t : T} {x : T} (h : x ∈ t.k) : blk x < blk t := by
  have := blks_mem h
  rw [blk_eq t]; omega
theorem blks_len : ∀ k : List T, k.length ≤ blks k
  | [] => by simp [blks]
  | t :: k => by have := blks_len k; have := blk_pos t; rw [blks, List.length_cons]; omega

/-- How many nodes there are, one after the other; -1: it may not be. -/
def wlk (t : T) (deep n : Int) : Int := if (chk t deep (2000 - n)).1 = true then 2000 - (chk t deep (2000 - n)).2 else -1

def kdeep (c : Bool) (i : Nat) (deep : Int) : Int := bif c && decide (i = 1) then deep else deep + 1
def kfrom (c : Bool) : Nat → List T → Int → Int → Bool × Int
  | _, [], _, left => (true, left)
  | i, x :: k, deep, left => if (chk x (kdeep c i deep) left).1 = true then kfrom c (i + 1) k deep (chk x (kdeep c i deep) left).2 else (false, (chk x (kdeep c i deep) left).2)

theorem kfrom_ks : ∀ (k : List T) (i : Nat) (deep left : Int), kfrom false i k deep left = chkKs k (deep + 1) left
  | [], i, deep, left => by rw [kfrom, chkKs]
  | x :: k, i, deep, left => by
    rw [kfrom, chkKs, kfrom_ks k]
    rfl

theorem chk_kfrom {t : T} {deep left : Int} (h : ¬ (left - 1 < 0 ∨ deep > 60 ∨ ownB t = false)) : chk t deep left = kfrom (decide (t.kind = 4)) 0 t.k deep (left - 1) := by
  by_cases h4 : t.kind = 4
  · have hlen : t.k.length = 2 := by
      have c3 : ownB t = true := by
        cases hh : ownB t with
        | true => rfl
        | false => exact absurd (.inr (.inr hh)) h
      simp only [ownB, ownK, h4, Bool.and_eq_true, if_true, decide_eq_true_eq] at c3
      exact c3.2.1.2
    match hk : t.k, hlen with
    | [x, y], _ =>
      rw [chk_cons h h4 hk]
      simp only [h4, decide_true, decide_false, kfrom, kdeep, Bool.true_and, Nat.zero_add, Nat.zero_ne_one]
      simp only [cond_true, cond_false]
      split
      · cases hy : chk y deep (chk x (deep + 1) (left - 1)).2 with
        | mk a b => cases a <;> simp
      · rfl
  · rw [chk_kids h h4, decide_eq_false h4, kfrom_ks]

def WalkSpec (m : Nat) : Prop := ∀ (t : T), blk t ≤ m → blk t ≤ 1000000000 → ∀ (deep n : Int), 1 ≤ deep → deep ≤ 61 → 0 ≤ n → n ≤ 2000 → FDoes Try.prog 34 [tA t, .int .i64 deep, .int .i64 n] [none, none, none] [.v (.int .i64 (wlk t deep n))] [none, none, none] none

/-- Those that come, from so deep on: the second of a Cons less deep. -/
theorem walk_step (m : Nat) (IH : WalkSpec m) (t : T) (hm : blk t ≤ m + 1) (hb : blk t ≤ 1000000000) (deep n : Int) (hd1 : 1 ≤ deep) (hd2 : deep ≤ 61) (hn1 : 0 ≤ n) (hn2 : n ≤ 2000) :
    FDoes Try.prog 34 [tA t, .int .i64 deep, .int .i64 n] [none, none, none] [.v (.int .i64 (wlk t deep n))] [none, none, none] none := by
  refine FDoes.of (E := env) ttok mixed Try.func34 (by kernel_rfl) rfl (by kernel_rfl) (rl := [.tmp 6]) rfl (Nat.le_of_ble_eq_true rfl) false ?_
  have wn : IntKind.i64.wrap (n + 1) = n + 1 := wrap64_id _ (by omega) (by omega)
  have wd : IntKind.i64.wrap (deep + 1) = deep + 1 := wrap64_id _ (by omega) (by omega)
  have hlk := blks_len t.k
  have hbe := blk_eq t
  by_cases c1 : n + 1 > 2000
  · have hw : wlk t deep n = -1 := by rw [wlk, chk_bad (.inl (by omega))]; rfl
    rw [hw]
    simp only [go_sem, W_cond, W_block, tA_eq, wn, c1]
  · by_cases c2 : deep > 60
    · have hw : wlk t deep n = -1 := by rw [wlk, chk_bad (.inr (.inl c2))]; rfl
      rw [hw]
      simp only [go_sem, W_cond, W_block, tA_eq, wn, c1, c2]
    · cases c3 : ownB t with
      | false =>
        have hw : wlk t deep n = -1 := by rw [wlk, chk_bad (.inr (.inr c3))]; rfl
        rw [hw]
        simp only [go_sem, W_cond, W_block, tA_eq, wn, c1, c2]
        have hc := fields_does t (by omega)
        try simp only [go_sem, List.length_append, tA_eq] at hc
        refine WCallR_does hc (by rfl) (by rfl) ?_
        clear hc
        simp only [go_sem, W_cond, W_block, c3]
      | true =>
        have hno : ¬ (2000 - n - 1 < 0 ∨ deep > 60 ∨ ownB t = false) := by rw [c3]; simp; omega
        simp only [go_sem, W_cond, W_block, tA_eq, wn, c1, c2]
        have hc := fields_does t (by omega)
        try simp only [go_sem, List.length_append, tA_eq] at hc
        refine WCallR_does hc (by rfl) (by rfl) ?_
        clear hc
        simp only [go_sem, W_cond, W_block, c3]
        have hck := chk_kfrom hno
        refine W_loop (fun (p : Nat × Int) st => p.1 ≤ t.k.length ∧ 0 ≤ p.2 ∧ p.2 ≤ 2000 ∧ chk t deep (2000 - n) = kfrom (decide (t.kind = 4)) p.1 (t.k.drop p.1) deep (2000 - p.2) ∧
          st.tm 1 = .int .i64 deep ∧ st.tm 2 = .int .i64 p.2 ∧ st.tm 3 = .ref (.loc 3 0 1) 0 ∧ st.tm 7 = .int .i64 p.1 ∧ st.hp (.loc 3 0 1) = some ⟨[.int .i64 t.kind, .bool t.neg, .sl t.ln 1 (lsl t.l) false, .str t.s, .int .i64 t.n, .sl t.kn 6 (tKs t.k) false], true⟩ ∧ st.hp (.arg 0) = none ∧ st.hp (.arg 1) = none ∧ st.hp (.arg 2) = none) (fun p => t.k.length - p.1) (0, n + 1) ?_ ?_
        · simp only [go_sem, W_cond, W_block, List.drop_zero]
          exact ⟨by omega, by omega, by rw [hck, show 2000 - (n + 1) = 2000 - n - 1 by omega]⟩
        · rintro ⟨i, ni⟩ tm hp clk ⟨hi, hni1, hni2, hq, g1, g2, g3, g7, h3, ha, ha1, ha2⟩
          replace g1 : tm 1 = _ := g1
          replace g2 : tm 2 = _ := g2
          replace g3 : tm 3 = _ := g3
          replace g7 : tm 7 = _ := g7
          replace h3 : hp (.loc 3 0 1) = _ := h3
          replace ha : hp (.arg 0) = _ := ha
          replace ha1 : hp (.arg 1) = _ := ha1
          replace ha2 : hp (.arg 2) = _ := ha2
          simp only at hi hni1 hni2 hq g2 g7
          by_cases hlt : i < t.k.length
          · have hlt' : (i : Int) < (t.k.length : Int) := by omega
            have hi0 : ¬ (i : Int) < 0 := by omega
            have hg : t.k[i]? = some t.k[i] := List.getElem?_eq_getElem hlt
            have hw : IntKind.i64.wrap ((i : Int) + 1) = ((i + 1 : Nat) : Int) := by rw [wrap64_id _ (by omega) (by omega)]; omega
            have hx := kid_blk (t := t) (x := t.k[i]) (List.getElem_mem hlt)
            have hd : t.k.drop i = t.k[i] :: t.k.drop (i + 1) := List.drop_eq_getElem_cons hlt
            rw [hd, kfrom] at hq
            have hkd : (kdeep (decide (t.kind = 4)) i deep = deep ∨ kdeep (decide (t.kind = 4)) i deep = deep + 1) := by
              unfold kdeep
              cases (decide (t.kind = 4) && decide (i = 1)) <;> simp
            have hcall := IH t.k[i] (by omega) (by omega) (kdeep (decide (t.kind = 4)) i deep) ni (by rcases hkd with h | h <;> rw [h] <;> omega) (by rcases hkd with h | h <;> rw [h] <;> omega) hni1 hni2
            have hleft := chk_left t.k[i] (kdeep (decide (t.kind = 4)) i deep) (2000 - ni) (by omega)
            generalize hkk : kdeep (decide (t.kind = 4)) i deep = kd at *
            have hwl : wlk t.k[i] kd ni = if (chk t.k[i] kd (2000 - ni)).1 = true then 2000 - (chk t.k[i] kd (2000 - ni)).2 else -1 := rfl
            have key : ∀ (Q : Prop), True := fun _ => trivial
            clear key
            cases hc : (chk t.k[i] kd (2000 - ni)).1 with
            | false =>
              rw [hc] at hq hwl
              rw [if_neg (by simp)] at hq hwl
              rw [hwl] at hcall
              have hres : wlk t deep n = -1 := by rw [wlk, hq]; rfl
              rw [hres]
              by_cases h4 : t.kind = 4
              · by_cases h1 : (i : Int) = 1
                · have hkd' : kd = deep := by rw [← hkk, kdeep, decide_eq_true h4, decide_eq_true (show i = 1 by omega)]; rfl
                  subst hkd'
                  simp only [go_sem, W_cond, W_block, g1, g2, g3, g7, h3, ha, ha1, ha2, hlt', hi0, tKs_get hg, tC_eq, wd, h4, eq_true h1]
                  have hc := hcall
                  try simp only [go_sem, List.length_append, tA_eq] at hc
                  refine WCallR_does hc (by rfl) (by rfl) ?_
                  clear hc
                  simp only [go_sem, W_cond, W_block]
                · have hkd' : kd = deep + 1 := by rw [← hkk, kdeep, decide_eq_false (show ¬ i = 1 by omega), Bool.and_false]; rfl
                  subst hkd'
                  simp only [go_sem, W_cond, W_block, g1, g2, g3, g7, h3, ha, ha1, ha2, hlt', hi0, tKs_get hg, tC_eq, wd, h4, h1]
                  have hc := hcall
                  try simp only [go_sem, List.length_append, tA_eq] at hc
                  refine WCallR_does hc (by rfl) (by rfl) ?_
                  clear hc
                  simp only [go_sem, W_cond, W_block]
              · have hkd' : kd = deep + 1 := by rw [← hkk, kdeep, decide_eq_false h4]; rfl
                subst hkd'
                simp only [go_sem, W_cond, W_block, g1, g2, g3, g7, h3, ha, ha1, ha2, hlt', hi0, tKs_get hg, tC_eq, wd, h4]
                have hc := hcall
                try simp only [go_sem, List.length_append, tA_eq] at hc
                refine WCallR_does hc (by rfl) (by rfl) ?_
                clear hc
                simp only [go_sem, W_cond, W_block]
            | true =>
              rw [hc] at hq hwl
              rw [if_pos rfl] at hq hwl
              rw [hwl] at hcall
              have hl0 := hleft.2.2 hc
              have hl1 := hleft.1
              have hnn : ¬ 2000 - (chk t.k[i] kd (2000 - ni)).2 < 0 := by omega
              have hq' : chk t deep (2000 - n) = kfrom (decide (t.kind = 4)) (i + 1) (t.k.drop (i + 1)) deep (2000 - (2000 - (chk t.k[i] kd (2000 - ni)).2)) := by rw [hq]; congr 1; omega
              have hnn0 : 0 ≤ 2000 - (chk t.k[i] kd (2000 - ni)).2 := by omega
              have hnn2 : 2000 - (chk t.k[i] kd (2000 - ni)).2 ≤ 2000 := by omega
              generalize 2000 - (chk t.k[i] kd (2000 - ni)).2 = nn at *
              by_cases h4 : t.kind = 4
              · by_cases h1 : (i : Int) = 1
                · have hkd' : kd = deep := by rw [← hkk, kdeep, decide_eq_true h4, decide_eq_true (show i = 1 by omega)]; rfl
                  subst hkd'
                  simp only [go_sem, W_cond, W_block, g1, g2, g3, g7, h3, ha, ha1, ha2, hlt', hi0, tKs_get hg, tC_eq, wd, h4, eq_true h1]
                  have hc := hcall
                  try simp only [go_sem, List.length_append, tA_eq] at hc
                  refine WCallR_does hc (by rfl) (by rfl) ?_
                  clear hc
                  simp only [go_sem, W_cond, W_block, g1, g2, g3, g7, h3, ha, ha1, ha2, hnn, hw]
                  simp only [h4, decide_true] at hq'
                  exact ⟨(i + 1, nn), ⟨by show i + 1 ≤ _; omega, hnn0, hnn2, hq', rfl, rfl, by rw [h4]⟩, by show t.k.length - (i + 1) < _; omega⟩
                · have hkd' : kd = deep + 1 := by rw [← hkk, kdeep, decide_eq_false (show ¬ i = 1 by omega), Bool.and_false]; rfl
                  subst hkd'
                  simp only [go_sem, W_cond, W_block, g1, g2, g3, g7, h3, ha, ha1, ha2, hlt', hi0, tKs_get hg, tC_eq, wd, h4, h1]
                  have hc := hcall
                  try simp only [go_sem, List.length_append, tA_eq] at hc
                  refine WCallR_does hc (by rfl) (by rfl) ?_
                  clear hc
                  simp only [go_sem, W_cond, W_block, g1, g2, g3, g7, h3, ha, ha1, ha2, hnn, hw]
                  simp only [h4, decide_true] at hq'
                  exact ⟨(i + 1, nn), ⟨by show i + 1 ≤ _; omega, hnn0, hnn2, hq', rfl, rfl, by rw [h4]⟩, by show t.k.length - (i + 1) < _; omega⟩
              · have hkd' : kd = deep + 1 := by rw [← hkk, kdeep, decide_eq_false h4]; rfl
                subst hkd'
                simp only [go_sem, W_cond, W_block, g1, g2, g3, g7, h3, ha, ha1, ha2, hlt', hi0, tKs_get hg, tC_eq, wd, h4]
                have hc := hcall
                try simp only [go_sem, List.length_append, tA_eq] at hc
                refine WCallR_does hc (by rfl) (by rfl) ?_
                clear hc
                simp only [go_sem, W_cond, W_block, g1, g2, g3, g7, h3, ha, ha1, ha2, hnn, hw]
                simp only [h4, decide_false] at hq'
                exact ⟨(i + 1, nn), ⟨by show i + 1 ≤ _; omega, hnn0, hnn2, hq', rfl, rfl⟩, by show t.k.length - (i + 1) < _; omega⟩
          · have hlt' : ¬ (i : Int) < (t.k.length : Int) := by omega
            rw [List.drop_eq_nil_of_le (by omega), kfrom] at hq
            have hres : wlk t deep n = ni := by rw [wlk, hq]; simp only [if_true]; omega
            simp only [go_sem, W_cond, W_block, g1, g2, g3, g7, h3, ha, ha1, ha2, hlt', hres]

theorem walk_does : ∀ m, WalkSpec m
  | 0 => fun t hm => by have := blk_pos t; omega
  | m + 1 => fun t hm hb deep n hd1 hd2 hn1 hn2 => walk_step m (walk_does m) t hm hb deep n hd1 hd2 hn1 hn2

/-- The document's answer: may a term be? The same. -/
theorem rCheck_does (t : T) (hb : blk t ≤ 1000000000) : FDoes Try.prog 16 [tA t] [none] [.v (.bool (chkB t))] [none] none := by
  refine FDoes.of (E := env) ttok mixed Try.func16 (by kernel_rfl) rfl (by kernel_rfl) (rl := [.tmp 2]) rfl (Nat.le_of_ble_eq_true rfl) false ?_
  simp only [go_sem, W_cond, W_block, tA_eq]
  have hc := walk_does (blk t) t (Nat.le_refl _) hb 1 0 (by omega) (by omega) (by omega) (by omega)
  try simp only [go_sem, List.length_append, tA_eq] at hc
  refine WCallR_does hc (by rfl) (by rfl) ?_
  clear hc
  have hl := chk_left t 1 2000 (by omega)
  have hw : decide (wlk t 1 0 ≥ 0) = chkB t := by
    unfold wlk chkB
    simp only [Int.sub_zero]
    cases hc : (chk t 1 2000).1 with
    | true => rw [if_pos rfl]; have := hl.1; simp; omega
    | false => rw [if_neg (by simp)]; rfl
  simp only [go_sem, W_cond, W_block, hw]
end Go.Proofs.Ythbbollhojdjdaa
