/- WALKS, 21: copies of bytes; ExtOne. Conditions: none. -/
import Derived.Test.YthbbollhojdjdaaWK
import Derived.Test.YthbbollhojdjdaaQ1
namespace Go.Proofs.Ythbbollhojdjdaa
open Go.Ab
set_option maxRecDepth 100000
set_option linter.unusedSimpArgs false
set_option linter.unusedVariables false

theorem Bytes_does (n f : Bool) (b : List UInt8) (hb : b.length ≤ 1000000000) : FDoes Try.prog 17 [.sl n 1 (bsl b) f] [none] [.v (.sl (emp b) 1 (bsl b) false)] [none] none := by
  cases b with
  | nil =>
    refine FDoes.weak (rs := [.v (.sl true 0 [] true)]) ?_ (.v (.nil _ _ _ _) .nil)
    refine FDoes.of (E := env) ttok mixed Try.func17 (by kernel_rfl) rfl (by kernel_rfl) (rl := [.tmp 2]) rfl (Nat.le_of_ble_eq_true rfl) false ?_
    simp only [go_sem, W_cond, W_block, bsl_nil]
  | cons x l =>
    refine FDoes.of (E := env) ttok mixed Try.func17 (by kernel_rfl) rfl (by kernel_rfl) (rl := [.tmp 2]) rfl (Nat.le_of_ble_eq_true rfl) false ?_
    have h0 : ¬ (x :: l).length = 0 := by simp
    have h1 : (0 + (x :: l).length) * 1 ≤ 140737488355328 := by omega
    have hch := chunk_bce (x :: l)
    rw [emp_cons]
    generalize x :: l = b at *
    have htk : (bce b).take b.length = bce b := List.take_of_length_le (by rw [bce_length]; exact Nat.le_refl _)
    have h1 : b.length ≤ 140737488355328 := by omega
    simp only [go_sem, W_cond, W_block, h0, h1, hch, htk]

theorem getT_blk {r : Except Int (T × Nat × Int)} : True := trivial

theorem chk_blk : ∀ (t : T) (d : Int), okT t d = true → blk t ≤ 500 * tsz t := by
  have hown : ∀ t : T, ownB t = true → t.l.length ≤ 12 ∧ t.s.length ≤ 400 := by
    intro t h
    refine ⟨?_, own_str h⟩
    simp only [ownB, Bool.and_eq_true] at h
    have hI := h.2.1.1.1
    unfold ownI at hI
    split at hI
    · exact nchk_len hI
    · simp only [zeroB, Bool.and_eq_true, decide_eq_true_eq] at hI; omega
  have key : ∀ (m : Nat) (t : T), tsz t ≤ m → ∀ d, okT t d = true → blk t ≤ 500 * tsz t := by
    intro m
    induction m with
    | zero => intro t h; have := tsz_pos t; omega
    | succ m ih =>
      intro t hm d h
      have ho := hown t (okT_own h)
      have hk : ∀ (k : List T), tszs k ≤ m → ∀ e, okKs k e = true → blks k ≤ 500 * tszs k := by
        intro k
        induction k with
        | nil => intro _ e _; rw [blks, tszs]; omega
        | cons x k ihk =>
          intro hx e h
          rw [tszs] at hx
          rw [okKs, Bool.and_eq_true] at h
          have h1 := ih x (by omega) e h.1
          have h2 := ihk (by omega) e h.2
          rw [blks, tszs]; omega
      cases t with
      | mk kind neg ln l s n kn k =>
        rw [tsz] at hm
        rw [okT] at h
        simp only [Bool.and_eq_true] at h
        simp only [T.l, T.s] at ho
        rw [blk, tsz]
        have h2 := h.2
        split at h2
        · match k, h2, hm with
          | [x, y], h2, hm =>
            rw [okC, Bool.and_eq_true] at h2
            simp only [tszs] at hm
            have h3 := ih x (by omega) _ h2.1
            have h4 := ih y (by omega) _ h2.2
            simp only [blks, tszs]
            omega
          | [], h2, _ => simp [okC] at h2
          | [_], h2, _ => simp [okC] at h2
          | _ :: _ :: _ :: _, h2, _ => simp [okC] at h2
        · have := hk k (by omega) _ h2
          omega
  intro t d h
  exact key (tsz t) t (Nat.le_refl _) d h

theorem ExtOne_does (bn : Bool) (b : List UInt8) (hbn : bn = true → b = []) : FDoes Try.prog 5 [.sl bn 1 (bsl b) false] [none] [.v (.bool true)] [none] none := by
  refine FDoes.of (E := env) ttok mixed Try.func5 (by kernel_rfl) rfl (by kernel_rfl) (rl := [.tmp 2]) rfl (Nat.le_of_ble_eq_true rfl) false ?_
  by_cases hlen : (b.length : Int) > 5000
  · simp only [go_sem, W_cond, W_block, hlen]
    have hc := awake_does
    try simp only [go_sem, List.length_append] at hc
    refine WCallR_does hc (by rfl) (by rfl) ?_
    clear hc
    simp only [go_sem, W_cond, W_block]
  · have hz : ((0 : Nat) : Int) = 0 := rfl
    simp only [go_sem, W_cond, W_block, hlen]
    have hc := Bytes_does bn false b (by omega)
    try simp only [go_sem, List.length_append] at hc
    refine WCallR_does hc (by rfl) (by rfl) ?_
    clear hc
    simp only [go_sem, W_cond, W_block]
    have hget := Get_does (emp b) b (fun h => (emp_iff b).1 h) (by omega) 0 (by omega)
    rw [hz] at hget
    cases hx : rGet b 0 with
    | error c =>
      rw [hx] at hget
      simp only [getT, getP, getE, tA_T0] at hget
      have hc := hget
      try simp only [go_sem, List.length_append] at hc
      refine WCallR_does hc (by rfl) (by rfl) ?_
      clear hc
      rcases rGet_err hx with rfl | rfl
      · simp only [go_sem, W_cond, W_block]
        have hc := awake_does
        try simp only [go_sem, List.length_append] at hc
        refine WCallR_does hc (by rfl) (by rfl) ?_
        clear hc
        simp only [go_sem, W_cond, W_block]
      · simp only [go_sem, W_cond, W_block]
        have hc := awake_does
        try simp only [go_sem, List.length_append] at hc
        refine WCallR_does hc (by rfl) (by rfl) ?_
        clear hc
        simp only [go_sem, W_cond, W_block]
    | ok q =>
      obtain ⟨t, p, k⟩ := q
      rw [hx] at hget
      simp only [getT, getP, getE] at hget
      obtain ⟨h1, h2, h3, h4⟩ := rGet_sound (by omega) hx
      have hbl := chk_blk t 1 ((chkB_ok t).1 h1).1
      have hts := ((chkB_ok t).1 h1).2
      have hc := hget
      try simp only [go_sem, List.length_append, tA_eq] at hc
      refine WCallR_does hc (by rfl) (by rfl) ?_
      clear hc
      have hp : (p : Int) ≤ (b.length : Int) := by omega
      have hp0 : (0 : Int) ≤ (p : Int) := by omega
      simp only [go_sem, W_cond, W_block, hp]
      have hc := rCheck_does t (by omega)
      try simp only [go_sem, List.length_append, tA_eq] at hc
      refine WCallDR_does hc (by rfl) (by rfl) ?_
      clear hc
      simp only [go_sem, W_cond, W_block, h1]
      have hput := Put_does true 0 true [] (.inl rfl) t (by simp) h1
      rw [List.nil_append] at hput
      have hc := hput
      try simp only [go_sem, List.length_append, tA_eq] at hc
      refine WCallDR_does hc (by rfl) (by rfl) ?_
      clear hc
      have hb0 : bn = false := by
        cases bn with
        | false => rfl
        | true => rw [hbn rfl] at h4; simp at h4; omega
      subst hb0
      have hsl : b.take p = enc t := by rw [h2]; simp [slc]
      simp only [go_sem, W_cond, W_block, hp0, bsl_take, bytesA_bsl, h4, hsl, List.drop_zero, Nat.sub_zero]
      have hc := awake_does
      try simp only [go_sem, List.length_append] at hc
      refine WCallDR_does hc (by rfl) (by rfl) ?_
      clear hc
      simp only [go_sem, W_cond, W_block]
end Go.Proofs.Ythbbollhojdjdaa
