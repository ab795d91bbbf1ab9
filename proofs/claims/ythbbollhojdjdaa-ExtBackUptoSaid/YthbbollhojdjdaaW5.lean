/- WALKS, 5: term.check. Conditions: none. -/
import Derived.Test.YthbbollhojdjdaaW4
namespace Go.Proofs.Ythbbollhojdjdaa
open Go.Ab
set_option maxRecDepth 100000
set_option linter.unusedSimpArgs false

mutual
def tsz : T → Nat
  | .mk _ _ _ _ _ _ _ k => 1 + tszs k
def tszs : List T → Nat
  | [] => 0
  | t :: k => tsz t + tszs k
end

theorem tszs_mem {x : T} : ∀ {k : List T}, x ∈ k → tsz x ≤ tszs k
  | t :: k, h => by
    rw [tszs]
    rcases List.mem_cons.1 h with rfl | h
    · omega
    · have := tszs_mem h; omega
theorem tsz_pos (t : T) : 0 < tsz t := by cases t; rw [tsz]; omega
theorem kid_size {t : T} {x : T} (h : x ∈ t.k) : tsz x < tsz t := by
  cases t with
  | mk kind neg ln l s n kn k =>
    have := tszs_mem (show x ∈ k from h)
    rw [tsz]
    omega

mutual
/-- Is a term right, so deep, so many nodes left? And how many are left then. -/
def chk : T → Int → Int → Bool × Int
  | .mk kind neg ln l s n kn k, deep, left =>
    if left - 1 < 0 ∨ deep > 60 ∨ ownB (.mk kind neg ln l s n kn k) = false then (false, left - 1)
    else if kind = 4 then chkC k deep (left - 1)
    else chkKs k (deep + 1) (left - 1)
def chkC : List T → Int → Int → Bool × Int
  | [h, t], deep, left => if (chk h (deep + 1) left).1 = true then chk t deep (chk h (deep + 1) left).2 else (false, (chk h (deep + 1) left).2)
  | [], _, left => (false, left)
  | [_], _, left => (false, left)
  | _ :: _ :: _ :: _, _, left => (false, left)
def chkKs : List T → Int → Int → Bool × Int
  | [], _, left => (true, left)
  | t :: k, deep, left => if (chk t deep left).1 = true then chkKs k deep (chk t deep left).2 else (false, (chk t deep left).2)
end

theorem chk_bad {t : T} {deep left : Int} (h : left - 1 < 0 ∨ deep > 60 ∨ ownB t = false) : chk t deep left = (false, left - 1) := by
  cases t; rw [chk, if_pos h]
theorem chk_kids {t : T} {deep left : Int} (h : ¬ (left - 1 < 0 ∨ deep > 60 ∨ ownB t = false)) (h4 : ¬ t.kind = 4) : chk t deep left = chkKs t.k (deep + 1) (left - 1) := by
  cases t
  simp only [T.kind] at h4
  rw [chk, if_neg h, if_neg h4]; rfl
theorem chk_cons {t : T} {deep left : Int} (h : ¬ (left - 1 < 0 ∨ deep > 60 ∨ ownB t = false)) (h4 : t.kind = 4) {x y : T} (hk : t.k = [x, y]) :
    chk t deep left = if (chk x (deep + 1) (left - 1)).1 = true then chk y deep (chk x (deep + 1) (left - 1)).2 else (false, (chk x (deep + 1) (left - 1)).2) := by
  cases t
  simp only [T.k] at hk
  simp only [T.kind] at h4
  subst hk
  rw [chk, if_neg h, if_pos h4, chkC]

mutual
theorem chk_left : ∀ (t : T) (deep left : Int), 0 ≤ left → (chk t deep left).2 ≤ left ∧ -1 ≤ (chk t deep left).2 ∧ ((chk t deep left).1 = true → 0 ≤ (chk t deep left).2)
  | .mk kind neg ln l s n kn k, deep, left, hl => by
    rw [chk]
    split
    · simp; omega
    · split
      · have := chkC_left k deep (left - 1) (by omega)
        exact ⟨by omega, this.2⟩
      · have := chkKs_left k (deep + 1) (left - 1) (by omega)
        exact ⟨by omega, this.2⟩
theorem chkC_left : ∀ (k : List T) (deep left : Int), 0 ≤ left → (chkC k deep left).2 ≤ left ∧ -1 ≤ (chkC k deep left).2 ∧ ((chkC k deep left).1 = true → 0 ≤ (chkC k deep left).2)
  | [x, y], deep, left, hl => by
    have hx := chk_left x (deep + 1) left hl
    rw [chkC]
    split
    · rename_i hh
      have hy := chk_left y deep (chk x (deep + 1) left).2 (hx.2.2 hh)
      exact ⟨by omega, hy.2⟩
    · exact ⟨hx.1, hx.2.1, by simp⟩
  | [], deep, left, hl => by rw [chkC]; simp; omega
  | [_], deep, left, hl => by rw [chkC]; simp; omega
  | _ :: _ :: _ :: _, deep, left, hl => by rw [chkC]; simp; omega
theorem chkKs_left : ∀ (k : List T) (deep left : Int), 0 ≤ left → (chkKs k deep left).2 ≤ left ∧ -1 ≤ (chkKs k deep left).2 ∧ ((chkKs k deep left).1 = true → 0 ≤ (chkKs k deep left).2)
  | [], deep, left, hl => by rw [chkKs]; simp; omega
  | t :: k, deep, left, hl => by
    have ht := chk_left t deep left hl
    rw [chkKs]
    split
    · rename_i hh
      have hk := chkKs_left k deep (chk t deep left).2 (ht.2.2 hh)
      exact ⟨by omega, hk.2⟩
    · exact ⟨ht.1, ht.2.1, by simp⟩
end

theorem chk_does : ∀ (m : Nat) (t : T), tsz t ≤ m → ∀ (deep left : Int), 1 ≤ deep → deep ≤ 61 → 0 ≤ left → left ≤ 2000 →
    FDoes Try.prog 45 [tA t, .int .i64 deep, .ref (.arg 2) 0] [none, none, some ⟨[.int .i64 left], true⟩] [.v (.bool (chk t deep left).1)] [none, none, some ⟨[.int .i64 (chk t deep left).2], true⟩] none
  | 0, t, hm, _, _, _, _, _, _ => by have := tsz_pos t; omega
  | m + 1, t0, hm, deep, left0, hd1, hd2, hl1, hl2 => by
    refine FDoes.of (E := env) ttok mixed Try.func45 (by kernel_rfl) rfl (by kernel_rfl) (rl := [.tmp 6]) rfl (Nat.le_of_ble_eq_true rfl) false ?_
    have hwd : IntKind.i64.wrap (deep + 1) = deep + 1 := wrap64_id _ (by omega) (by omega)
    simp only [go_sem, W_cond, W_block, tA_eq]
    refine W_loop (fun (a : T × Int) st => st.tm 1 = .int .i64 deep ∧ st.tm 2 = .ref (.arg 2) 0 ∧ st.tm 3 = .ref (.loc 3 0 1) 0 ∧ st.hp (.loc 3 0 1) = some ⟨[.int .i64 a.1.kind, .bool a.1.neg, .sl a.1.ln 1 (lsl a.1.l) false, .str a.1.s, .int .i64 a.1.n, .sl a.1.kn 6 (tKs a.1.k) false], true⟩ ∧
      st.hp (.arg 2) = some ⟨[.int .i64 a.2], true⟩ ∧ tsz a.1 ≤ tsz t0 ∧ chk a.1 deep a.2 = chk t0 deep left0 ∧ 0 ≤ a.2 ∧ a.2 ≤ 2000) (fun a => tsz a.1) (t0, left0) ?_ ?_
    · simp only [go_sem, W_cond, W_block, hl1, hl2]
    · rintro ⟨t, left⟩ tm hp clk ⟨g1, g2, g3, g4, g5, hsz, hc, hl3, hl4⟩
      replace g1 : tm 1 = _ := g1
      replace g2 : tm 2 = _ := g2
      replace g3 : tm 3 = _ := g3
      replace g4 : hp (.loc 3 0 1) = _ := g4
      replace g5 : hp (.arg 2) = _ := g5
      simp only at g4 g5 hsz hc hl3 hl4
      have hw1 : IntKind.i64.wrap (left - 1) = left - 1 := wrap64_id _ (by omega) (by omega)
      by_cases c1 : left - 1 < 0
      · rw [chk_bad (.inl c1)] at hc
        simp only [go_sem, W_cond, W_block, g1, g2, g3, g4, g5, hw1, c1, ← hc]
      · by_cases c2 : deep > 60
        · rw [chk_bad (.inr (.inl c2))] at hc
          simp only [go_sem, W_cond, W_block, g1, g2, g3, g4, g5, hw1, c1, c2, ← hc]
        · cases c3 : ownB t with
          | false =>
            rw [chk_bad (.inr (.inr c3))] at hc
            simp only [go_sem, W_cond, W_block, g1, g2, g3, g4, g5, hw1, c1, c2]
            have hc := own_does t
            try simp only [go_sem, List.length_append, tA_eq] at hc
            refine WCallR_does hc (by rfl) (by rfl) ?_
            clear hc
            simp only [go_sem, W_cond, W_block, c3, g5, ← hc]
          | true =>
            have hno : ¬ (left - 1 < 0 ∨ deep > 60 ∨ ownB t = false) := by rw [c3]; simp; omega
            simp only [go_sem, W_cond, W_block, g1, g2, g3, g4, g5, hw1, c1, c2]
            have hc := own_does t
            try simp only [go_sem, List.length_append, tA_eq] at hc
            refine WCallR_does hc (by rfl) (by rfl) ?_
            clear hc
            by_cases h4 : t.kind = 4
            · have hlen : t.k.length = 2 := by
                have := c3
                simp only [ownB, ownK, h4, Bool.and_eq_true, if_true, decide_eq_true_eq] at this
                exact this.2.1.2
              obtain ⟨x, y, hk⟩ : ∃ x y, t.k = [x, y] := by
                match hq : t.k with
                | [x, y] => exact ⟨x, y, rfl⟩
                | [] => rw [hq] at hlen; simp at hlen
                | [_] => rw [hq] at hlen; simp at hlen
                | _ :: _ :: _ :: _ => rw [hq] at hlen; simp at hlen
              rw [chk_cons hno h4 hk] at hc
              simp only [go_sem, W_cond, W_block, c3, g1, g2, g3, g4, g5, h4, hk, tKs]
              refine W_loop (fun (a : Nat × Int) st => a.1 ≤ 1 ∧ st.tm 1 = .int .i64 deep ∧ st.tm 2 = .ref (.arg 2) 0 ∧ st.tm 3 = .ref (.loc 3 0 1) 0 ∧ st.hp (.loc 3 0 1) = some ⟨[.int .i64 t.kind, .bool t.neg, .sl t.ln 1 (lsl t.l) false, .str t.s, .int .i64 t.n, .sl t.kn 6 [tC x, tC y] false], true⟩ ∧
                st.hp (.arg 2) = some ⟨[.int .i64 a.2], true⟩ ∧ st.tm 35 = .sl t.kn 6 [tC x] false ∧ st.tm 36 = .int .i64 1 ∧ st.tm 37 = .int .i64 a.1 ∧ (a.1 = 0 ∧ a.2 = left - 1 ∨ a.1 = 1 ∧ chk x (deep + 1) (left - 1) = (true, a.2)) ∧ 0 ≤ a.2 ∧ a.2 ≤ 2000) (fun a => 1 - a.1) (0, left - 1) ?_ ?_
              · simp only [go_sem, W_cond, W_block, g1, g2, g3, g4, hk, tKs, h4]
                omega
              · clear g1 g2 g3 g4 g5 tm hp clk
                rintro ⟨i, lc⟩ tm hp clk ⟨hi, k1, k2, k3, k4, k5, k6, k7, k8, hcc, hl5, hl6⟩
                replace k1 : tm 1 = _ := k1
                replace k2 : tm 2 = _ := k2
                replace k3 : tm 3 = _ := k3
                replace k4 : hp (.loc 3 0 1) = _ := k4
                replace k5 : hp (.arg 2) = _ := k5
                replace k6 : tm 35 = _ := k6
                replace k7 : tm 36 = _ := k7
                replace k8 : tm 37 = _ := k8
                simp only at hi k5 k8 hcc hl5 hl6
                rcases hcc with ⟨rfl, rfl⟩ | ⟨rfl, hcc⟩
                · have hcall := chk_does m x (by have := kid_size (t := t) (x := x) (by rw [hk]; simp); omega) (deep + 1) (left - 1) (by omega) (by omega) (by omega) (by omega)
                  have hleft := chk_left x (deep + 1) (left - 1) (by omega)
                  simp only [go_sem, W_cond, W_block, k1, k2, k3, k4, k5, k6, k7, k8, tC_eq, hwd]
                  have hc := hcall
                  try simp only [go_sem, List.length_append, tA_eq] at hc
                  refine WCallR_does hc (by rfl) (by rfl) ?_
                  clear hc
                  cases hr : (chk x (deep + 1) (left - 1)).1 with
                  | false =>
                    rw [hr] at hc
                    simp only [go_sem, W_cond, W_block, hr, k1, k2, k3, k4, k5, ← hc]
                  | true =>
                    have hw : IntKind.i64.wrap 1 = ((1 : Nat) : Int) := by decide
                    simp only [go_sem, W_cond, W_block, hr, k1, k2, k3, k4, k5, k6, k7, k8, tC_eq, hw]
                    exact ⟨(1, (chk x (deep + 1) (left - 1)).2), ⟨by omega, rfl, rfl, .inr ⟨rfl, by rw [← hr]⟩, hleft.2.2 hr, by omega⟩, by omega⟩
                · rw [hcc] at hc
                  simp only [go_sem, W_cond, W_block, k1, k2, k3, k4, k5, k6, k7, k8, h4, tC_eq]
                  have hy := kid_size (t := t) (x := y) (by rw [hk]; simp)
                  exact ⟨(y, lc), ⟨rfl, rfl, by show tsz y ≤ tsz t0; omega, by simpa using hc, hl5, hl6⟩, hy⟩
            · rw [chk_kids hno h4] at hc
              simp only [go_sem, W_cond, W_block, c3, g1, g2, g3, g4, g5, h4]
              refine W_loop (fun (a : Nat × Int) st => a.1 ≤ t.k.length ∧ st.tm 1 = .int .i64 deep ∧ st.tm 2 = .ref (.arg 2) 0 ∧ st.tm 3 = .ref (.loc 3 0 1) 0 ∧ st.hp (.loc 3 0 1) = some ⟨[.int .i64 t.kind, .bool t.neg, .sl t.ln 1 (lsl t.l) false, .str t.s, .int .i64 t.n, .sl t.kn 6 (tKs t.k) false], true⟩ ∧
                st.hp (.arg 2) = some ⟨[.int .i64 a.2], true⟩ ∧ st.tm 35 = .sl t.kn 6 (tKs t.k) false ∧ st.tm 36 = .int .i64 t.k.length ∧ st.tm 37 = .int .i64 a.1 ∧ chkKs (t.k.drop a.1) (deep + 1) a.2 = chkKs t.k (deep + 1) (left - 1) ∧ 0 ≤ a.2 ∧ a.2 ≤ 2000) (fun a => t.k.length - a.1) (0, left - 1) ?_ ?_
              · simp only [go_sem, W_cond, W_block, g1, g2, g3, g4]
                exact ⟨by omega, by omega⟩
              · clear g1 g2 g3 g4 g5 tm hp clk
                rintro ⟨i, lc⟩ tm hp clk ⟨hi, k1, k2, k3, k4, k5, k6, k7, k8, hcc, hl5, hl6⟩
                replace k1 : tm 1 = _ := k1
                replace k2 : tm 2 = _ := k2
                replace k3 : tm 3 = _ := k3
                replace k4 : hp (.loc 3 0 1) = _ := k4
                replace k5 : hp (.arg 2) = _ := k5
                replace k6 : tm 35 = _ := k6
                replace k7 : tm 36 = _ := k7
                replace k8 : tm 37 = _ := k8
                simp only at hi k5 k8 hcc hl5 hl6
                have hlen : t.k.length ≤ 40 := by
                  have := c3
                  simp only [ownB, ownK, h4, Bool.and_eq_true, if_false] at this
                  have h2 := this.2.1.2
                  split at h2
                  · simpa using h2
                  · have := of_decide_eq_true h2; omega
                by_cases hlt : i < t.k.length
                · have hlt' : (i : Int) < (t.k.length : Int) := by omega
                  have hi0 : ¬ (i : Int) < 0 := by omega
                  have hg : t.k[i]? = some t.k[i] := List.getElem?_eq_getElem hlt
                  have hw : IntKind.i64.wrap ((i : Int) + 1) = ((i + 1 : Nat) : Int) := by rw [wrap64_id _ (by omega) (by omega)]; omega
                  have hcall := chk_does m t.k[i] (by have := kid_size (t := t) (x := t.k[i]) (List.getElem_mem hlt); omega) (deep + 1) lc (by omega) (by omega) (by omega) (by omega)
                  have hleft := chk_left t.k[i] (deep + 1) lc (by omega)
                  have hd : t.k.drop i = t.k[i] :: t.k.drop (i + 1) := List.drop_eq_getElem_cons hlt
                  rw [hd, chkKs] at hcc
                  simp only [go_sem, W_cond, W_block, k1, k2, k3, k4, k5, k6, k7, k8, tKs_get hg, tC_eq, hwd, hlt', hi0]
                  have hc := hcall
                  try simp only [go_sem, List.length_append, tA_eq] at hc
                  refine WCallR_does hc (by rfl) (by rfl) ?_
                  clear hc
                  cases hr : (chk t.k[i] (deep + 1) lc).1 with
                  | false =>
                    rw [hr] at hcc
                    simp only [Bool.false_eq_true, if_false] at hcc
                    rw [← hcc] at hc
                    simp only [go_sem, W_cond, W_block, hr, k1, k2, k3, k4, k5, ← hc]
                  | true =>
                    rw [hr] at hcc
                    simp only [if_true] at hcc
                    simp only [go_sem, W_cond, W_block, hr, k1, k2, k3, k4, k5, k6, k7, k8, hw]
                    exact ⟨(i + 1, (chk t.k[i] (deep + 1) lc).2), ⟨by omega, rfl, rfl, hcc, hleft.2.2 hr, by omega⟩, by omega⟩
                · have hlt' : ¬ (i : Int) < (t.k.length : Int) := by omega
                  rw [List.drop_eq_nil_of_le (by omega), chkKs] at hcc
                  rw [← hcc] at hc
                  simp only [go_sem, W_cond, W_block, k1, k2, k3, k4, k5, k6, k7, k8, hlt', h4, ← hc]

/-- May a term be? -/
def chkB (t : T) : Bool := (chk t 1 2000).1

theorem tCheck_does (t : T) : FDoes Try.prog 27 [tA t] [none] [.v (.bool (chkB t))] [none] none := by
  refine FDoes.of (E := env) ttok mixed Try.func27 (by kernel_rfl) rfl (by kernel_rfl) (rl := [.tmp 2]) rfl (Nat.le_of_ble_eq_true rfl) false ?_
  simp only [go_sem, W_cond, W_block, tA_eq]
  have hc := chk_does (tsz t) t (Nat.le_refl _) 1 2000 (by omega) (by omega) (by omega) (by omega)
  try simp only [go_sem, List.length_append, tA_eq] at hc
  refine WCallR_does hc (by rfl) (by rfl) ?_
  clear hc
  simp only [go_sem, W_cond, W_block, chkB]
end Go.Proofs.Ythbbollhojdjdaa
