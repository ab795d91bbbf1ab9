/- WALKS, 7: ext.list. Conditions: lengths below the greatest; a Cons has two parts. -/
import Derived.Test.YthbbollhojdjdaaW6
namespace Go.Proofs.Ythbbollhojdjdaa
open Go.Ab
set_option maxRecDepth 100000
set_option linter.unusedSimpArgs false
set_option linter.unusedVariables false

def flat (k : List T) : List AV := (k.map tC).flatten
@[go_sem] theorem flat_length (k : List T) : (flat k).length = k.length * 6 := by
  unfold flat
  induction k with
  | nil => rfl
  | cons t k ih => simp only [List.map_cons, List.flatten_cons, List.length_append, ih, tC_length, List.length_cons]; omega
theorem flat_snoc (k : List T) (t : T) : flat (k ++ [t]) = flat k ++ tC t := by simp [flat]
@[go_sem] theorem flat_all (k : List T) : (flat k).all one = true := by
  unfold flat
  induction k with
  | nil => rfl
  | cons t k ih => simp only [List.map_cons, List.flatten_cons, List.all_append, ih, tC_all, Bool.and_self]
@[go_sem] theorem flat_nfs (k : List T) : nf.nfs (flat k) = true := by
  unfold flat
  induction k with
  | nil => rfl
  | cons t k ih => simp only [List.map_cons, List.flatten_cons, nfs_append, ih, tC_nfs, Bool.and_self]
theorem flat_drop : ∀ (k : List T) (i : Nat) (t : T), k[i]? = some t → (flat k).drop (i * 6) = tC t ++ flat (k.drop (i + 1))
  | x :: k, 0, t, h => by
    simp only [List.getElem?_cons_zero, Option.some.injEq] at h
    subst h
    simp [flat]
  | x :: k, i + 1, t, h => by
    simp only [List.getElem?_cons_succ] at h
    have := flat_drop k i t h
    have e : flat (x :: k) = tC x ++ flat k := by simp [flat]
    rw [e, show (i + 1) * 6 = 6 + i * 6 by omega, ← List.drop_drop, List.drop_left' (tC_length x), this]
    rfl

theorem encKs_append : ∀ (k k' : List T), encKs (k ++ k') = encKs k ++ encKs k'
  | [], _ => rfl
  | t :: k, k' => by rw [List.cons_append, encKs, encKs, encKs_append k k', List.append_assoc]

theorem list_arr (m' : Bool) (sz : Nat) (m : Nat) (IH : Term1 m) (ha : bOk (none)) (b : List UInt8) (t : T) (hm : tsz t ≤ m + 1) (hm2 : tsz t ≤ 1000000000) (hwf : wfB t = true) (hb : b.length + (enc t).length ≤ 100000000000) (hk : t.kind = 4) :
    FDoes Try.prog 48 [bArg (none) b, tA t] [bOb (none) b, none] [.ex 0 (b ++ enc t).length 1] [none, none] (some ⟨bce (b ++ enc t), true⟩) := by
  refine FDoes.of (E := env) ttok mixed Try.func48 (by kernel_rfl) rfl (by kernel_rfl) (rl := [.tmp 4]) rfl (Nat.le_of_ble_eq_true rfl) true ?_
  have h108 : AV.int .u8 108 = ofByte 108 := rfl
  simp only [go_sem, W_cond, tA_eq, bArg, bOb]
  refine W_cut (fun st => ∃ (done : List T) (cur : T) (c : Nat), done ≠ [] ∧ ¬ cur.kind = 4 ∧ cntT t = done.length ∧ hdsT t = encKs done ∧ tlT t = enc cur ∧ wfB cur = true ∧ tsz cur < tsz t ∧ (∀ x ∈ done, tsz x < tsz t ∧ wfB x = true) ∧
    st.tm 0 = bArg (none) b ∧ st.tm 3 = .ref (.loc 3 0 1) 0 ∧ st.hp (.loc 3 0 1) = some ⟨tC cur, true⟩ ∧ st.hp (.arg 0) = bOb (none) b ∧ st.tm 5 = .arr (.loc 17 6 c) 0 done.length 6 ∧ st.hp (.loc 17 6 c) = some ⟨flat done, true⟩) ?_ ?_
  · simp only [go_sem, W_cond, W_block]
    refine W_loop (fun (p : List T × T) st => (p.1 = [] → p.2 = t) ∧ cntT t = p.1.length + cntT p.2 ∧ hdsT t = encKs p.1 ++ hdsT p.2 ∧ tlT t = tlT p.2 ∧ wfB p.2 = true ∧ tsz p.2 ≤ tsz t ∧ (p.1 ≠ [] → tsz p.2 < tsz t) ∧ (∀ x ∈ p.1, tsz x < tsz t ∧ wfB x = true) ∧
      st.tm 0 = bArg (none) b ∧ st.tm 3 = .ref (.loc 3 0 1) 0 ∧ st.hp (.loc 3 0 1) = some ⟨tC p.2, true⟩ ∧ st.hp (.arg 0) = bOb (none) b ∧
      (p.1 = [] ∧ st.tm 5 = .sl true 0 [] true ∨ p.1 ≠ [] ∧ ∃ c, st.tm 5 = .arr (.loc 17 6 c) 0 p.1.length 6 ∧ st.hp (.loc 17 6 c) = some ⟨flat p.1, true⟩)) (fun p => tsz p.2) ([], t) ?_ ?_
    · simp only [go_sem, W_cond, W_block, bArg, bOb, tC_eq]
      exact ⟨by rw [encKs]; rfl, hwf⟩
    · rintro ⟨done, cur⟩ tm hp clk ⟨q1, q2, q3, q4, q5, q6, q7, q8, g1, g2, g3, g4, g5⟩
      replace g1 : tm 0 = _ := g1
      replace g2 : tm 3 = _ := g2
      replace g3 : hp (.loc 3 0 1) = _ := g3
      replace g4 : hp (.arg 0) = _ := g4
      simp only at q1 q2 q3 q4 q5 q6 q7 q8 g3 g5
      by_cases hc : cur.kind = 4
      · obtain ⟨x, y, hxy⟩ := wf_cons q5 hc
        have hcnt : cntT cur = 1 + cntT y := by rw [cntT_cons hc, hxy, cntK]
        have hhds : hdsT cur = enc x ++ hdsT y := by rw [hdsT_cons hc, hxy, hdsK]
        have htl : tlT cur = tlT y := by rw [tlT_cons hc, hxy, tlK]
        have hx := kid_size (t := cur) (x := x) (by rw [hxy]; simp)
        have hy := kid_size (t := cur) (x := y) (by rw [hxy]; simp)
        have hwx := wf_mem (x := x) (wf_kids q5) (by rw [hxy]; simp)
        have hwy := wf_mem (x := y) (wf_kids q5) (by rw [hxy]; simp)
        rcases g5 with ⟨rfl, g5⟩ | ⟨hd, c, g5, g6⟩
        · replace g5 : tm 5 = _ := g5
          simp only [go_sem, W_cond, W_block, g1, g2, g3, g4, g5, tC_eq, hc, hxy, tKs]
          refine ⟨([x], y), ⟨by simp, ?_, ?_, by rw [q4, htl], hwy, by show tsz y ≤ tsz t; omega, fun _ => by show tsz y < tsz t; omega, ?_, rfl, by simp, clk + 1, rfl, ?_⟩, hy⟩
          · rw [q2, hcnt]; simp
          · rw [q3, hhds]; simp [encKs]
          · intro z hz
            simp only [List.mem_singleton] at hz
            subst hz
            exact ⟨by omega, hwx⟩
          · simp [flat, tC_eq]
        · replace g5 : tm 5 = _ := g5
          replace g6 : hp (.loc 17 6 c) = _ := g6
          have hct := cntT_le (tsz t) t (Nat.le_refl _)
          have hbnd : (done.length + 1) * 88 ≤ 140737488355328 := by omega
          simp only [go_sem, W_cond, W_block, g1, g2, g3, g4, g5, g6, tC_eq, hc, hxy, tKs, hbnd]
          refine ⟨(done ++ [x], y), ⟨by simp, ?_, ?_, by rw [q4, htl], hwy, by show tsz y ≤ tsz t; omega, fun _ => by show tsz y < tsz t; omega, ?_, rfl, by simp, clk + 1, by simp, ?_⟩, hy⟩
          · rw [q2, hcnt]; simp; omega
          · rw [q3, hhds, encKs_append]; simp [encKs]
          · intro z hz
            simp only [List.mem_append, List.mem_singleton] at hz
            rcases hz with hz | rfl
            · exact q8 z hz
            · exact ⟨by omega, hwx⟩
          · rw [flat_snoc, tC_eq]; simp
      · rcases g5 with ⟨rfl, g5⟩ | ⟨hd, c, g5, g6⟩
        · rw [q1 rfl] at hc; exact absurd hk hc
        · replace g5 : tm 5 = _ := g5
          replace g6 : hp (.loc 17 6 c) = _ := g6
          simp only [go_sem, W_cond, W_block, g1, g2, g3, g4, g5, g6, tC_eq, hc]
          exact ⟨done, cur, c, hd, hc, by rw [q2, cntT_other hc]; rfl, by rw [q3, hdsT_other hc]; simp, by rw [q4, tlT_other hc], q5, q7 hd, q8, rfl, rfl, g6⟩
  · rintro tm hp clk ⟨done, cur, c, q1, q2, q3, q4, q5, q6, q7, q8, g1, g2, g3, g4, g5, g6⟩
    replace g1 : tm 0 = _ := g1
    replace g2 : tm 3 = _ := g2
    replace g3 : hp (.loc 3 0 1) = _ := g3
    replace g4 : hp (.arg 0) = _ := g4
    replace g5 : tm 5 = _ := g5
    replace g6 : hp (.loc 17 6 c) = _ := g6
    have he : enc t = 108 :: (be4 done.length ++ (encKs done ++ enc cur)) := by rw [enc_cons hk, q3, q4, q5]
    have hlen : (enc t).length = 5 + (encKs done).length + (enc cur).length := by rw [he]; simp [be4_length]; omega
    rw [he]
    simp only [go_sem, W_cond, W_block, g1, g2, g3, g4, g5, g6, bArg, bOb, h108]
    refine WCallR_does (put_does (none) ha b [108] false true (by simp) (by simp; omega)) (by rfl) (by rfl) ?_
    simp only [go_sem, W_cond, W_block, g2, g3, g4, g5, g6]
    have hc := word_does none trivial (b ++ [108]) done.length (by simp; omega)
    try simp only [go_sem, List.length_append, bArg, bOb] at hc
    refine WCallR_does hc (by rfl) (by rfl) ?_
    clear hc
    simp only [go_sem, W_cond, W_block, g2, g3, g4, g5, g6]
    refine W_loop (fun (i : Nat) st => i ≤ done.length ∧ st.tm 3 = .ref (.loc 3 0 1) 0 ∧ st.hp (.loc 3 0 1) = some ⟨tC cur, true⟩ ∧ st.hp (.arg 0) = none ∧ st.tm 28 = .arr (.loc 17 6 c) 0 done.length 6 ∧ st.hp (.loc 17 6 c) = some ⟨flat done, true⟩ ∧
      st.tm 29 = .int .i64 done.length ∧ st.tm 30 = .int .i64 i ∧ ∃ d j e, ¬ 3 = d ∧ ¬ 17 = d ∧ ¬ d = 7 ∧ st.tm 0 = .arr (.loc d j e) 0 (b ++ [108] ++ be4 done.length ++ encKs (done.take i)).length 1 ∧ st.hp (.loc d j e) = some ⟨bce (b ++ [108] ++ be4 done.length ++ encKs (done.take i)), true⟩) (fun i => done.length - i) 0 ?_ ?_
    · simp only [go_sem, W_cond, W_block, g2, g3, g4, g5, g6, List.take_zero, encKs, tC_eq, bOb]
      exact ⟨27, 5, clk, by decide, by decide, by decide, by simp [be4_length], by simp⟩
    · clear g1 g2 g3 g4 g5 g6 tm hp clk
      rintro i tm hp clk ⟨hi, g2, g3, g4, g5, g6, g7, g8, d, j, e, hd3, hd17, hd7, g9, g10⟩
      replace g2 : tm 3 = _ := g2
      replace g3 : hp (.loc 3 0 1) = _ := g3
      replace g4 : hp (.arg 0) = _ := g4
      replace g5 : tm 28 = _ := g5
      replace g6 : hp (.loc 17 6 c) = _ := g6
      replace g7 : tm 29 = _ := g7
      replace g8 : tm 30 = _ := g8
      replace g9 : tm 0 = _ := g9
      replace g10 : hp (.loc d j e) = _ := g10
      have hct := cntT_le (tsz t) t (Nat.le_refl _)
      by_cases hlt : i < done.length
      · have hlt' : (i : Int) < (done.length : Int) := by omega
        have hi0 : ¬ (i : Int) < 0 := by omega
        have hg : done[i]? = some done[i] := List.getElem?_eq_getElem hlt
        have hw : IntKind.i64.wrap ((i : Int) + 1) = ((i + 1 : Nat) : Int) := by rw [wrap64_id _ (by omega) (by omega)]; omega
        have hdr := flat_drop done i done[i] hg
        have h6 : 6 ≤ done.length * 6 - i * 6 := by omega
        obtain ⟨hx1, hx2⟩ := q8 done[i] (List.getElem_mem hlt)
        obtain ⟨B, hB⟩ : ∃ B, B = b ++ [108] ++ be4 done.length ++ encKs (done.take i) := ⟨_, rfl⟩
        rw [← hB] at g9 g10
        have hsplit : encKs done = encKs (done.take i) ++ (enc done[i] ++ encKs (done.drop (i + 1))) := by
          have e1 : done.take i ++ (done[i] :: done.drop (i + 1)) = done := by rw [← List.drop_eq_getElem_cons hlt, List.take_append_drop]
          have e2 := congrArg encKs e1
          rw [encKs_append, encKs] at e2
          exact e2.symm
        have hBl : B.length = b.length + 5 + (encKs (done.take i)).length := by rw [hB]; simp [be4_length]; omega
        have hsl : (encKs done).length = (encKs (done.take i)).length + ((enc done[i]).length + (encKs (done.drop (i + 1))).length) := by rw [hsplit]; simp
        simp only [go_sem, W_cond, W_block, g2, g3, g4, g5, g6, g7, g8, g9, g10, hlt', hi0, hdr, tC_eq, hd7]
        have hc := IH none trivial B done[i] (by omega) (by omega) hx2 (by omega)
        try simp only [go_sem, List.length_append, bArg, bOb, tA_eq] at hc
        refine WCallR_does hc (by rfl) (by rfl) ?_
        clear hc
        simp only [go_sem, W_cond, W_block, g2, g3, g4, g5, g6, g7, g8, g9, g10, hd3, hd17, tC_eq, hw]
        have hB2 : B ++ enc done[i] = b ++ [108] ++ be4 done.length ++ encKs (done.take (i + 1)) := by
          rw [hB, List.take_add_one, hg, Option.toList_some, encKs_append, encKs, encKs]
          simp
        refine ⟨i + 1, ⟨by omega, rfl, 36, 2, clk + 1 + 1, by decide, by decide, by decide, ?_, ?_⟩, by omega⟩
        · rw [← hB2, List.length_append]
        · rw [← hB2]; simp
      · have hlt' : ¬ (i : Int) < (done.length : Int) := by omega
        have hi : i = done.length := by omega
        subst hi
        rw [List.take_length] at g9 g10
        obtain ⟨B, hB⟩ : ∃ B, B = b ++ [108] ++ be4 done.length ++ encKs done := ⟨_, rfl⟩
        rw [← hB] at g9 g10
        have hBl : B.length = b.length + 5 + (encKs done).length := by rw [hB]; simp [be4_length]; omega
        have hfin : b ++ 108 :: (be4 done.length ++ (encKs done ++ enc cur)) = B ++ enc cur := by rw [hB]; simp
        rw [hfin]
        simp only [go_sem, W_cond, W_block, g2, g3, g4, g5, g6, g7, g8, g9, g10, hlt', tC_eq]
        have hc := IH none trivial B cur (by omega) (by omega) q6 (by omega)
        try simp only [go_sem, List.length_append, bArg, bOb, tA_eq] at hc
        refine WCallR_does hc (by rfl) (by rfl) ?_
        clear hc
        simp only [go_sem, W_cond, W_block, g4, List.length_append]
theorem list_sl (m' : Bool) (sz : Nat) (m : Nat) (IH : Term1 m) (ha : bOk (some (m', sz))) (b : List UInt8) (t : T) (hm : tsz t ≤ m + 1) (hm2 : tsz t ≤ 1000000000) (hwf : wfB t = true) (hb : b.length + (enc t).length ≤ 100000000000) (hk : t.kind = 4) :
    FDoes Try.prog 48 [bArg (some (m', sz)) b, tA t] [bOb (some (m', sz)) b, none] [.ex 0 (b ++ enc t).length 1] [none, none] (some ⟨bce (b ++ enc t), true⟩) := by
  refine FDoes.of (E := env) ttok mixed Try.func48 (by kernel_rfl) rfl (by kernel_rfl) (rl := [.tmp 4]) rfl (Nat.le_of_ble_eq_true rfl) true ?_
  have h108 : AV.int .u8 108 = ofByte 108 := rfl
  simp only [go_sem, W_cond, tA_eq, bArg, bOb]
  refine W_cut (fun st => ∃ (done : List T) (cur : T) (c : Nat), done ≠ [] ∧ ¬ cur.kind = 4 ∧ cntT t = done.length ∧ hdsT t = encKs done ∧ tlT t = enc cur ∧ wfB cur = true ∧ tsz cur < tsz t ∧ (∀ x ∈ done, tsz x < tsz t ∧ wfB x = true) ∧
    st.tm 0 = bArg (some (m', sz)) b ∧ st.tm 3 = .ref (.loc 3 0 1) 0 ∧ st.hp (.loc 3 0 1) = some ⟨tC cur, true⟩ ∧ st.hp (.arg 0) = bOb (some (m', sz)) b ∧ st.tm 5 = .arr (.loc 17 6 c) 0 done.length 6 ∧ st.hp (.loc 17 6 c) = some ⟨flat done, true⟩) ?_ ?_
  · simp only [go_sem, W_cond, W_block]
    refine W_loop (fun (p : List T × T) st => (p.1 = [] → p.2 = t) ∧ cntT t = p.1.length + cntT p.2 ∧ hdsT t = encKs p.1 ++ hdsT p.2 ∧ tlT t = tlT p.2 ∧ wfB p.2 = true ∧ tsz p.2 ≤ tsz t ∧ (p.1 ≠ [] → tsz p.2 < tsz t) ∧ (∀ x ∈ p.1, tsz x < tsz t ∧ wfB x = true) ∧
      st.tm 0 = bArg (some (m', sz)) b ∧ st.tm 3 = .ref (.loc 3 0 1) 0 ∧ st.hp (.loc 3 0 1) = some ⟨tC p.2, true⟩ ∧ st.hp (.arg 0) = bOb (some (m', sz)) b ∧
      (p.1 = [] ∧ st.tm 5 = .sl true 0 [] true ∨ p.1 ≠ [] ∧ ∃ c, st.tm 5 = .arr (.loc 17 6 c) 0 p.1.length 6 ∧ st.hp (.loc 17 6 c) = some ⟨flat p.1, true⟩)) (fun p => tsz p.2) ([], t) ?_ ?_
    · simp only [go_sem, W_cond, W_block, bArg, bOb, tC_eq]
      exact ⟨by rw [encKs]; rfl, hwf⟩
    · rintro ⟨done, cur⟩ tm hp clk ⟨q1, q2, q3, q4, q5, q6, q7, q8, g1, g2, g3, g4, g5⟩
      replace g1 : tm 0 = _ := g1
      replace g2 : tm 3 = _ := g2
      replace g3 : hp (.loc 3 0 1) = _ := g3
      replace g4 : hp (.arg 0) = _ := g4
      simp only at q1 q2 q3 q4 q5 q6 q7 q8 g3 g5
      by_cases hc : cur.kind = 4
      · obtain ⟨x, y, hxy⟩ := wf_cons q5 hc
        have hcnt : cntT cur = 1 + cntT y := by rw [cntT_cons hc, hxy, cntK]
        have hhds : hdsT cur = enc x ++ hdsT y := by rw [hdsT_cons hc, hxy, hdsK]
        have htl : tlT cur = tlT y := by rw [tlT_cons hc, hxy, tlK]
        have hx := kid_size (t := cur) (x := x) (by rw [hxy]; simp)
        have hy := kid_size (t := cur) (x := y) (by rw [hxy]; simp)
        have hwx := wf_mem (x := x) (wf_kids q5) (by rw [hxy]; simp)
        have hwy := wf_mem (x := y) (wf_kids q5) (by rw [hxy]; simp)
        rcases g5 with ⟨rfl, g5⟩ | ⟨hd, c, g5, g6⟩
        · replace g5 : tm 5 = _ := g5
          simp only [go_sem, W_cond, W_block, g1, g2, g3, g4, g5, tC_eq, hc, hxy, tKs]
          refine ⟨([x], y), ⟨by simp, ?_, ?_, by rw [q4, htl], hwy, by show tsz y ≤ tsz t; omega, fun _ => by show tsz y < tsz t; omega, ?_, rfl, by simp, clk + 1, rfl, ?_⟩, hy⟩
          · rw [q2, hcnt]; simp
          · rw [q3, hhds]; simp [encKs]
          · intro z hz
            simp only [List.mem_singleton] at hz
            subst hz
            exact ⟨by omega, hwx⟩
          · simp [flat, tC_eq]
        · replace g5 : tm 5 = _ := g5
          replace g6 : hp (.loc 17 6 c) = _ := g6
          have hct := cntT_le (tsz t) t (Nat.le_refl _)
          have hbnd : (done.length + 1) * 88 ≤ 140737488355328 := by omega
          simp only [go_sem, W_cond, W_block, g1, g2, g3, g4, g5, g6, tC_eq, hc, hxy, tKs, hbnd]
          refine ⟨(done ++ [x], y), ⟨by simp, ?_, ?_, by rw [q4, htl], hwy, by show tsz y ≤ tsz t; omega, fun _ => by show tsz y < tsz t; omega, ?_, rfl, by simp, clk + 1, by simp, ?_⟩, hy⟩
          · rw [q2, hcnt]; simp; omega
          · rw [q3, hhds, encKs_append]; simp [encKs]
          · intro z hz
            simp only [List.mem_append, List.mem_singleton] at hz
            rcases hz with hz | rfl
            · exact q8 z hz
            · exact ⟨by omega, hwx⟩
          · rw [flat_snoc, tC_eq]; simp
      · rcases g5 with ⟨rfl, g5⟩ | ⟨hd, c, g5, g6⟩
        · rw [q1 rfl] at hc; exact absurd hk hc
        · replace g5 : tm 5 = _ := g5
          replace g6 : hp (.loc 17 6 c) = _ := g6
          simp only [go_sem, W_cond, W_block, g1, g2, g3, g4, g5, g6, tC_eq, hc]
          exact ⟨done, cur, c, hd, hc, by rw [q2, cntT_other hc]; rfl, by rw [q3, hdsT_other hc]; simp, by rw [q4, tlT_other hc], q5, q7 hd, q8, rfl, rfl, g6⟩
  · rintro tm hp clk ⟨done, cur, c, q1, q2, q3, q4, q5, q6, q7, q8, g1, g2, g3, g4, g5, g6⟩
    replace g1 : tm 0 = _ := g1
    replace g2 : tm 3 = _ := g2
    replace g3 : hp (.loc 3 0 1) = _ := g3
    replace g4 : hp (.arg 0) = _ := g4
    replace g5 : tm 5 = _ := g5
    replace g6 : hp (.loc 17 6 c) = _ := g6
    have he : enc t = 108 :: (be4 done.length ++ (encKs done ++ enc cur)) := by rw [enc_cons hk, q3, q4, q5]
    have hlen : (enc t).length = 5 + (encKs done).length + (enc cur).length := by rw [he]; simp [be4_length]; omega
    rw [he]
    simp only [go_sem, W_cond, W_block, g1, g2, g3, g4, g5, g6, bArg, bOb, h108]
    refine WCallR_does (put_does (some (m', sz)) ha b [108] false true (by simp) (by simp; omega)) (by rfl) (by rfl) ?_
    simp only [go_sem, W_cond, W_block, g2, g3, g4, g5, g6]
    have hc := word_does none trivial (b ++ [108]) done.length (by simp; omega)
    try simp only [go_sem, List.length_append, bArg, bOb] at hc
    refine WCallR_does hc (by rfl) (by rfl) ?_
    clear hc
    simp only [go_sem, W_cond, W_block, g2, g3, g4, g5, g6]
    refine W_loop (fun (i : Nat) st => i ≤ done.length ∧ st.tm 3 = .ref (.loc 3 0 1) 0 ∧ st.hp (.loc 3 0 1) = some ⟨tC cur, true⟩ ∧ st.hp (.arg 0) = none ∧ st.tm 28 = .arr (.loc 17 6 c) 0 done.length 6 ∧ st.hp (.loc 17 6 c) = some ⟨flat done, true⟩ ∧
      st.tm 29 = .int .i64 done.length ∧ st.tm 30 = .int .i64 i ∧ ∃ d j e, ¬ 3 = d ∧ ¬ 17 = d ∧ ¬ d = 7 ∧ st.tm 0 = .arr (.loc d j e) 0 (b ++ [108] ++ be4 done.length ++ encKs (done.take i)).length 1 ∧ st.hp (.loc d j e) = some ⟨bce (b ++ [108] ++ be4 done.length ++ encKs (done.take i)), true⟩) (fun i => done.length - i) 0 ?_ ?_
    · simp only [go_sem, W_cond, W_block, g2, g3, g4, g5, g6, List.take_zero, encKs, tC_eq, bOb]
      exact ⟨27, 5, clk, by decide, by decide, by decide, by simp [be4_length], by simp⟩
    · clear g1 g2 g3 g4 g5 g6 tm hp clk
      rintro i tm hp clk ⟨hi, g2, g3, g4, g5, g6, g7, g8, d, j, e, hd3, hd17, hd7, g9, g10⟩
      replace g2 : tm 3 = _ := g2
      replace g3 : hp (.loc 3 0 1) = _ := g3
      replace g4 : hp (.arg 0) = _ := g4
      replace g5 : tm 28 = _ := g5
      replace g6 : hp (.loc 17 6 c) = _ := g6
      replace g7 : tm 29 = _ := g7
      replace g8 : tm 30 = _ := g8
      replace g9 : tm 0 = _ := g9
      replace g10 : hp (.loc d j e) = _ := g10
      have hct := cntT_le (tsz t) t (Nat.le_refl _)
      by_cases hlt : i < done.length
      · have hlt' : (i : Int) < (done.length : Int) := by omega
        have hi0 : ¬ (i : Int) < 0 := by omega
        have hg : done[i]? = some done[i] := List.getElem?_eq_getElem hlt
        have hw : IntKind.i64.wrap ((i : Int) + 1) = ((i + 1 : Nat) : Int) := by rw [wrap64_id _ (by omega) (by omega)]; omega
        have hdr := flat_drop done i done[i] hg
        have h6 : 6 ≤ done.length * 6 - i * 6 := by omega
        obtain ⟨hx1, hx2⟩ := q8 done[i] (List.getElem_mem hlt)
        obtain ⟨B, hB⟩ : ∃ B, B = b ++ [108] ++ be4 done.length ++ encKs (done.take i) := ⟨_, rfl⟩
        rw [← hB] at g9 g10
        have hsplit : encKs done = encKs (done.take i) ++ (enc done[i] ++ encKs (done.drop (i + 1))) := by
          have e1 : done.take i ++ (done[i] :: done.drop (i + 1)) = done := by rw [← List.drop_eq_getElem_cons hlt, List.take_append_drop]
          have e2 := congrArg encKs e1
          rw [encKs_append, encKs] at e2
          exact e2.symm
        have hBl : B.length = b.length + 5 + (encKs (done.take i)).length := by rw [hB]; simp [be4_length]; omega
        have hsl : (encKs done).length = (encKs (done.take i)).length + ((enc done[i]).length + (encKs (done.drop (i + 1))).length) := by rw [hsplit]; simp
        simp only [go_sem, W_cond, W_block, g2, g3, g4, g5, g6, g7, g8, g9, g10, hlt', hi0, hdr, tC_eq, hd7]
        have hc := IH none trivial B done[i] (by omega) (by omega) hx2 (by omega)
        try simp only [go_sem, List.length_append, bArg, bOb, tA_eq] at hc
        refine WCallR_does hc (by rfl) (by rfl) ?_
        clear hc
        simp only [go_sem, W_cond, W_block, g2, g3, g4, g5, g6, g7, g8, g9, g10, hd3, hd17, tC_eq, hw]
        have hB2 : B ++ enc done[i] = b ++ [108] ++ be4 done.length ++ encKs (done.take (i + 1)) := by
          rw [hB, List.take_add_one, hg, Option.toList_some, encKs_append, encKs, encKs]
          simp
        refine ⟨i + 1, ⟨by omega, rfl, 36, 2, clk + 1 + 1, by decide, by decide, by decide, ?_, ?_⟩, by omega⟩
        · rw [← hB2, List.length_append]
        · rw [← hB2]; simp
      · have hlt' : ¬ (i : Int) < (done.length : Int) := by omega
        have hi : i = done.length := by omega
        subst hi
        rw [List.take_length] at g9 g10
        obtain ⟨B, hB⟩ : ∃ B, B = b ++ [108] ++ be4 done.length ++ encKs done := ⟨_, rfl⟩
        rw [← hB] at g9 g10
        have hBl : B.length = b.length + 5 + (encKs done).length := by rw [hB]; simp [be4_length]; omega
        have hfin : b ++ 108 :: (be4 done.length ++ (encKs done ++ enc cur)) = B ++ enc cur := by rw [hB]; simp
        rw [hfin]
        simp only [go_sem, W_cond, W_block, g2, g3, g4, g5, g6, g7, g8, g9, g10, hlt', tC_eq]
        have hc := IH none trivial B cur (by omega) (by omega) q6 (by omega)
        try simp only [go_sem, List.length_append, bArg, bOb, tA_eq] at hc
        refine WCallR_does hc (by rfl) (by rfl) ?_
        clear hc
        simp only [go_sem, W_cond, W_block, g4, List.length_append]
end Go.Proofs.Ythbbollhojdjdaa
