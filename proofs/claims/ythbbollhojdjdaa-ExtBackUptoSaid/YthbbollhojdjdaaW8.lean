/- WALKS, 8: ext.term1. Conditions: lengths below the greatest; a Cons has two parts. -/
import Derived.Test.YthbbollhojdjdaaW7
namespace Go.Proofs.Ythbbollhojdjdaa
open Go.Ab
set_option maxRecDepth 100000
set_option linter.unusedSimpArgs false

/-- Bytes, may be none, behind an own array. -/
theorem put_own (b x : List UInt8) (n f : Bool) (h : (b.length + x.length : Nat) ≤ 140737488355328) :
    FDoes Try.prog 47 [.arr (.arg 0) 0 b.length 1, .sl n 1 (bsl x) f] [some ⟨bce b, true⟩, none] [.ex 0 (b.length + x.length) 1] [none, none] (some ⟨bce (b ++ x), true⟩) := by
  refine FDoes.of (E := env) ttok mixed Try.func47 (by kernel_rfl) rfl (by kernel_rfl) (rl := [.tmp 4]) rfl (Nat.le_of_ble_eq_true rfl) true ?_
  simp only [go_sem, W_cond, W_block, h, bce_append]

theorem term1_arr (m' : Bool) (sz : Nat) (m : Nat) (IH : Term1 m) (ha : bOk (none)) (b : List UInt8) (t : T) (hm : tsz t ≤ m + 1) (hm2 : tsz t ≤ 1000000000) (hwf : wfB t = true) (hb : b.length + (enc t).length ≤ 100000000000) :
    FDoes Try.prog 28 [bArg (none) b, tA t] [bOb (none) b, none] [.ex 0 (b ++ enc t).length 1] [none, none] (some ⟨bce (b ++ enc t), true⟩) := by
  refine FDoes.of (E := env) ttok mixed Try.func28 (by kernel_rfl) rfl (by kernel_rfl) (rl := [.tmp 4]) rfl (Nat.le_of_ble_eq_true rfl) true ?_
  have h104 : AV.int .u8 104 = ofByte 104 := rfl
  have h106 : AV.int .u8 106 = ofByte 106 := rfl
  have h109 : AV.int .u8 109 = ofByte 109 := rfl
  have h119 : AV.int .u8 119 = ofByte 119 := rfl
  by_cases h1 : t.kind = 1
  · rw [enc_int h1] at hb ⊢
    simp only [go_sem, W_cond, W_block, tA_eq, bArg, bOb, h1]
    have hc := number_does (none) ha b t.neg t.ln t.l (by omega)
    try simp only [go_sem, List.length_append, bArg, bOb, numA] at hc
    refine WCallR_does hc (by rfl) (by rfl) ?_
    clear hc
    simp only [go_sem, W_cond, W_block, List.length_append]
  · by_cases h2 : t.kind = 2
    · rw [enc_atom h2] at hb ⊢
      simp only [List.length_cons] at hb
      simp only [go_sem, W_cond, W_block, tA_eq, bArg, bOb, h2, h119, toByte]
      have hc := put_does (none) ha b [119, u8i t.s.length] false true (by simp) (by simp; omega)
      try simp only [go_sem, List.length_append, bArg, bOb, bsl_cons, bsl_nil] at hc
      refine WCallDR_does hc (by rfl) (by rfl) ?_
      clear hc
      simp only [go_sem, W_cond, W_block]
      have hc := put_own (b ++ [119, u8i t.s.length]) t.s false false (by simp; omega)
      try simp only [go_sem, List.length_append] at hc
      refine WCallDR_does hc (by rfl) (by rfl) ?_
      clear hc
      simp only [go_sem, W_cond, W_block]
      exact ⟨by kernel_rfl, by simp; omega, by simp⟩
    · by_cases h3 : t.kind = 3
      · rw [enc_nil h3] at hb ⊢
        simp only [go_sem, W_cond, W_block, tA_eq, bArg, bOb, h3, h106]
        have hc := put_does (none) ha b [106] false true (by simp) (by simp; omega)
        try simp only [go_sem, List.length_append, bArg, bOb, bsl_cons, bsl_nil] at hc
        refine WCallR_does hc (by rfl) (by rfl) ?_
        clear hc
        simp only [go_sem, W_cond, W_block, List.length_append]
      · by_cases h4 : t.kind = 4
        · simp only [go_sem, W_cond, W_block, tA_eq, bArg, bOb, h4]
          have hc := list_arr m' sz m IH ha b t hm hm2 hwf hb h4
          simp only [go_sem, List.length_append, bArg, bOb, tA_eq, h4] at hc
          refine WCallR_does hc (by rfl) (by rfl) ?_
          clear hc
          simp only [go_sem, W_cond, W_block, List.length_append]
        · by_cases h5 : t.kind = 5
          · rw [enc_tuple h5] at hb ⊢
            simp only [List.length_cons] at hb
            simp only [go_sem, W_cond, W_block, tA_eq, bArg, bOb, h5, h104, toByte]
            have hc := put_does (none) ha b [104, u8i t.k.length] false true (by simp) (by simp; omega)
            try simp only [go_sem, List.length_append, bArg, bOb, bsl_cons, bsl_nil] at hc
            refine WCallR_does hc (by rfl) (by rfl) ?_
            clear hc
            simp only [go_sem, W_cond, W_block]
            refine W_loop (fun (i : Nat) st => i ≤ t.k.length ∧ st.hp (.arg 0) = none ∧ st.tm 48 = .sl t.kn 6 (tKs t.k) false ∧ st.tm 49 = .int .i64 t.k.length ∧ st.tm 50 = .int .i64 i ∧
              ∃ d j e, ¬ d = 6 ∧ st.tm 0 = .arr (.loc d j e) 0 (b ++ [104, u8i t.k.length] ++ encKs (t.k.take i)).length 1 ∧ st.hp (.loc d j e) = some ⟨bce (b ++ [104, u8i t.k.length] ++ encKs (t.k.take i)), true⟩) (fun i => t.k.length - i) 0 ?_ ?_
            · simp only [go_sem, W_cond, W_block, List.take_zero, encKs, bOb]
              exact ⟨46, 6, 8, by decide, by simp, by simp⟩
            · rintro i tm hp clk ⟨hi, g4, g5, g7, g8, d, j, e, hd6, g9, g10⟩
              replace g4 : hp (.arg 0) = _ := g4
              replace g5 : tm 48 = _ := g5
              replace g7 : tm 49 = _ := g7
              replace g8 : tm 50 = _ := g8
              replace g9 : tm 0 = _ := g9
              replace g10 : hp (.loc d j e) = _ := g10
              by_cases hlt : i < t.k.length
              · have hlt' : (i : Int) < (t.k.length : Int) := by omega
                have hi0 : ¬ (i : Int) < 0 := by omega
                have hg : t.k[i]? = some t.k[i] := List.getElem?_eq_getElem hlt
                have hx := kid_size (t := t) (x := t.k[i]) (List.getElem_mem hlt)
                have hwx := wf_mem (x := t.k[i]) (wf_kids hwf) (List.getElem_mem hlt)
                have hkl : t.k.length ≤ tsz t := by
                  have : ∀ k : List T, k.length ≤ tszs k := by
                    intro k
                    induction k with
                    | nil => simp [tszs]
                    | cons x k ih => have := tsz_pos x; rw [tszs]; simp only [List.length_cons]; omega
                  have h' := this t.k
                  cases t
                  rw [tsz]
                  simp only [T.k] at h' ⊢
                  omega
                have hw : IntKind.i64.wrap ((i : Int) + 1) = ((i + 1 : Nat) : Int) := by rw [wrap64_id _ (by omega) (by omega)]; omega
                obtain ⟨B, hB⟩ : ∃ B, B = b ++ [104, u8i t.k.length] ++ encKs (t.k.take i) := ⟨_, rfl⟩
                rw [← hB] at g9 g10
                have hsplit : encKs t.k = encKs (t.k.take i) ++ (enc t.k[i] ++ encKs (t.k.drop (i + 1))) := by
                  have e1 : t.k.take i ++ (t.k[i] :: t.k.drop (i + 1)) = t.k := by rw [← List.drop_eq_getElem_cons hlt, List.take_append_drop]
                  have e2 := congrArg encKs e1
                  rw [encKs_append, encKs] at e2
                  exact e2.symm
                have hBl : B.length = b.length + 2 + (encKs (t.k.take i)).length := by rw [hB]; simp; omega
                have hsl : (encKs t.k).length = (encKs (t.k.take i)).length + ((enc t.k[i]).length + (encKs (t.k.drop (i + 1))).length) := by rw [hsplit]; simp
                simp only [go_sem, W_cond, W_block, g4, g5, g7, g8, g9, g10, hlt', hi0, tKs_get hg, tC_eq, hd6]
                have hc := IH none trivial B t.k[i] (by omega) (by omega) hwx (by omega)
                try simp only [go_sem, List.length_append, bArg, bOb, tA_eq] at hc
                refine WCallR_does hc (by rfl) (by rfl) ?_
                clear hc
                simp only [go_sem, W_cond, W_block, g4, g5, g7, g8, g9, g10, tC_eq, hw]
                have hB2 : B ++ enc t.k[i] = b ++ [104, u8i t.k.length] ++ encKs (t.k.take (i + 1)) := by
                  rw [hB, List.take_add_one, hg, Option.toList_some, encKs_append, encKs, encKs]
                  simp
                refine ⟨i + 1, ⟨by omega, rfl, 56, 2, clk + 1 + 1, by decide, ?_, ?_⟩, by omega⟩
                · rw [← hB2, List.length_append]
                · rw [← hB2]; simp
              · have hlt' : ¬ (i : Int) < (t.k.length : Int) := by omega
                have hi : i = t.k.length := by omega
                subst hi
                rw [List.take_length] at g9 g10
                simp only [go_sem, W_cond, W_block, g4, g5, g7, g8, g9, g10, hlt', List.length_append]
                exact ⟨by simp; omega, by simp⟩
          · rw [enc_bin h1 h2 h3 h4 h5] at hb ⊢
            simp only [List.length_cons, List.length_append, be4_length] at hb
            simp only [go_sem, W_cond, W_block, tA_eq, bArg, bOb, h1, h2, h3, h4, h5, h109]
            have hc := put_does (none) ha b [109] false true (by simp) (by simp; omega)
            try simp only [go_sem, List.length_append, bArg, bOb, bsl_cons, bsl_nil] at hc
            refine WCallDR_does hc (by rfl) (by rfl) ?_
            clear hc
            simp only [go_sem, W_cond, W_block]
            have hc := word_does none trivial (b ++ [109]) t.s.length (by simp; omega)
            try simp only [go_sem, List.length_append, bArg, bOb] at hc
            refine WCallDR_does hc (by rfl) (by rfl) ?_
            clear hc
            simp only [go_sem, W_cond, W_block]
            have hc := put_own (b ++ [109] ++ be4 t.s.length) t.s false false (by simp [be4_length]; omega)
            try simp only [go_sem, List.length_append, be4_length] at hc
            refine WCallDR_does hc (by rfl) (by rfl) ?_
            clear hc
            simp only [go_sem, W_cond, W_block]
            exact ⟨by kernel_rfl, by simp [be4_length]; omega, by simp⟩
theorem term1_sl (m' : Bool) (sz : Nat) (m : Nat) (IH : Term1 m) (ha : bOk (some (m', sz))) (b : List UInt8) (t : T) (hm : tsz t ≤ m + 1) (hm2 : tsz t ≤ 1000000000) (hwf : wfB t = true) (hb : b.length + (enc t).length ≤ 100000000000) :
    FDoes Try.prog 28 [bArg (some (m', sz)) b, tA t] [bOb (some (m', sz)) b, none] [.ex 0 (b ++ enc t).length 1] [none, none] (some ⟨bce (b ++ enc t), true⟩) := by
  refine FDoes.of (E := env) ttok mixed Try.func28 (by kernel_rfl) rfl (by kernel_rfl) (rl := [.tmp 4]) rfl (Nat.le_of_ble_eq_true rfl) true ?_
  have h104 : AV.int .u8 104 = ofByte 104 := rfl
  have h106 : AV.int .u8 106 = ofByte 106 := rfl
  have h109 : AV.int .u8 109 = ofByte 109 := rfl
  have h119 : AV.int .u8 119 = ofByte 119 := rfl
  by_cases h1 : t.kind = 1
  · rw [enc_int h1] at hb ⊢
    simp only [go_sem, W_cond, W_block, tA_eq, bArg, bOb, h1]
    have hc := number_does (some (m', sz)) ha b t.neg t.ln t.l (by omega)
    try simp only [go_sem, List.length_append, bArg, bOb, numA] at hc
    refine WCallR_does hc (by rfl) (by rfl) ?_
    clear hc
    simp only [go_sem, W_cond, W_block, List.length_append]
  · by_cases h2 : t.kind = 2
    · rw [enc_atom h2] at hb ⊢
      simp only [List.length_cons] at hb
      simp only [go_sem, W_cond, W_block, tA_eq, bArg, bOb, h2, h119, toByte]
      have hc := put_does (some (m', sz)) ha b [119, u8i t.s.length] false true (by simp) (by simp; omega)
      try simp only [go_sem, List.length_append, bArg, bOb, bsl_cons, bsl_nil] at hc
      refine WCallDR_does hc (by rfl) (by rfl) ?_
      clear hc
      simp only [go_sem, W_cond, W_block]
      have hc := put_own (b ++ [119, u8i t.s.length]) t.s false false (by simp; omega)
      try simp only [go_sem, List.length_append] at hc
      refine WCallDR_does hc (by rfl) (by rfl) ?_
      clear hc
      simp only [go_sem, W_cond, W_block]
      exact ⟨by kernel_rfl, by simp; omega, by simp⟩
    · by_cases h3 : t.kind = 3
      · rw [enc_nil h3] at hb ⊢
        simp only [go_sem, W_cond, W_block, tA_eq, bArg, bOb, h3, h106]
        have hc := put_does (some (m', sz)) ha b [106] false true (by simp) (by simp; omega)
        try simp only [go_sem, List.length_append, bArg, bOb, bsl_cons, bsl_nil] at hc
        refine WCallR_does hc (by rfl) (by rfl) ?_
        clear hc
        simp only [go_sem, W_cond, W_block, List.length_append]
      · by_cases h4 : t.kind = 4
        · simp only [go_sem, W_cond, W_block, tA_eq, bArg, bOb, h4]
          have hc := list_sl m' sz m IH ha b t hm hm2 hwf hb h4
          simp only [go_sem, List.length_append, bArg, bOb, tA_eq, h4] at hc
          refine WCallR_does hc (by rfl) (by rfl) ?_
          clear hc
          simp only [go_sem, W_cond, W_block, List.length_append]
        · by_cases h5 : t.kind = 5
          · rw [enc_tuple h5] at hb ⊢
            simp only [List.length_cons] at hb
            simp only [go_sem, W_cond, W_block, tA_eq, bArg, bOb, h5, h104, toByte]
            have hc := put_does (some (m', sz)) ha b [104, u8i t.k.length] false true (by simp) (by simp; omega)
            try simp only [go_sem, List.length_append, bArg, bOb, bsl_cons, bsl_nil] at hc
            refine WCallR_does hc (by rfl) (by rfl) ?_
            clear hc
            simp only [go_sem, W_cond, W_block]
            refine W_loop (fun (i : Nat) st => i ≤ t.k.length ∧ st.hp (.arg 0) = none ∧ st.tm 48 = .sl t.kn 6 (tKs t.k) false ∧ st.tm 49 = .int .i64 t.k.length ∧ st.tm 50 = .int .i64 i ∧
              ∃ d j e, ¬ d = 6 ∧ st.tm 0 = .arr (.loc d j e) 0 (b ++ [104, u8i t.k.length] ++ encKs (t.k.take i)).length 1 ∧ st.hp (.loc d j e) = some ⟨bce (b ++ [104, u8i t.k.length] ++ encKs (t.k.take i)), true⟩) (fun i => t.k.length - i) 0 ?_ ?_
            · simp only [go_sem, W_cond, W_block, List.take_zero, encKs, bOb]
              exact ⟨46, 6, 8, by decide, by simp, by simp⟩
            · rintro i tm hp clk ⟨hi, g4, g5, g7, g8, d, j, e, hd6, g9, g10⟩
              replace g4 : hp (.arg 0) = _ := g4
              replace g5 : tm 48 = _ := g5
              replace g7 : tm 49 = _ := g7
              replace g8 : tm 50 = _ := g8
              replace g9 : tm 0 = _ := g9
              replace g10 : hp (.loc d j e) = _ := g10
              by_cases hlt : i < t.k.length
              · have hlt' : (i : Int) < (t.k.length : Int) := by omega
                have hi0 : ¬ (i : Int) < 0 := by omega
                have hg : t.k[i]? = some t.k[i] := List.getElem?_eq_getElem hlt
                have hx := kid_size (t := t) (x := t.k[i]) (List.getElem_mem hlt)
                have hwx := wf_mem (x := t.k[i]) (wf_kids hwf) (List.getElem_mem hlt)
                have hkl : t.k.length ≤ tsz t := by
                  have : ∀ k : List T, k.length ≤ tszs k := by
                    intro k
                    induction k with
                    | nil => simp [tszs]
                    | cons x k ih => have := tsz_pos x; rw [tszs]; simp only [List.length_cons]; omega
                  have h' := this t.k
                  cases t
                  rw [tsz]
                  simp only [T.k] at h' ⊢
                  omega
                have hw : IntKind.i64.wrap ((i : Int) + 1) = ((i + 1 : Nat) : Int) := by rw [wrap64_id _ (by omega) (by omega)]; omega
                obtain ⟨B, hB⟩ : ∃ B, B = b ++ [104, u8i t.k.length] ++ encKs (t.k.take i) := ⟨_, rfl⟩
                rw [← hB] at g9 g10
                have hsplit : encKs t.k = encKs (t.k.take i) ++ (enc t.k[i] ++ encKs (t.k.drop (i + 1))) := by
                  have e1 : t.k.take i ++ (t.k[i] :: t.k.drop (i + 1)) = t.k := by rw [← List.drop_eq_getElem_cons hlt, List.take_append_drop]
                  have e2 := congrArg encKs e1
                  rw [encKs_append, encKs] at e2
                  exact e2.symm
                have hBl : B.length = b.length + 2 + (encKs (t.k.take i)).length := by rw [hB]; simp; omega
                have hsl : (encKs t.k).length = (encKs (t.k.take i)).length + ((enc t.k[i]).length + (encKs (t.k.drop (i + 1))).length) := by rw [hsplit]; simp
                simp only [go_sem, W_cond, W_block, g4, g5, g7, g8, g9, g10, hlt', hi0, tKs_get hg, tC_eq, hd6]
                have hc := IH none trivial B t.k[i] (by omega) (by omega) hwx (by omega)
                try simp only [go_sem, List.length_append, bArg, bOb, tA_eq] at hc
                refine WCallR_does hc (by rfl) (by rfl) ?_
                clear hc
                simp only [go_sem, W_cond, W_block, g4, g5, g7, g8, g9, g10, tC_eq, hw]
                have hB2 : B ++ enc t.k[i] = b ++ [104, u8i t.k.length] ++ encKs (t.k.take (i + 1)) := by
                  rw [hB, List.take_add_one, hg, Option.toList_some, encKs_append, encKs, encKs]
                  simp
                refine ⟨i + 1, ⟨by omega, rfl, 56, 2, clk + 1 + 1, by decide, ?_, ?_⟩, by omega⟩
                · rw [← hB2, List.length_append]
                · rw [← hB2]; simp
              · have hlt' : ¬ (i : Int) < (t.k.length : Int) := by omega
                have hi : i = t.k.length := by omega
                subst hi
                rw [List.take_length] at g9 g10
                simp only [go_sem, W_cond, W_block, g4, g5, g7, g8, g9, g10, hlt', List.length_append]
                exact ⟨by simp; omega, by simp⟩
          · rw [enc_bin h1 h2 h3 h4 h5] at hb ⊢
            simp only [List.length_cons, List.length_append, be4_length] at hb
            simp only [go_sem, W_cond, W_block, tA_eq, bArg, bOb, h1, h2, h3, h4, h5, h109]
            have hc := put_does (some (m', sz)) ha b [109] false true (by simp) (by simp; omega)
            try simp only [go_sem, List.length_append, bArg, bOb, bsl_cons, bsl_nil] at hc
            refine WCallDR_does hc (by rfl) (by rfl) ?_
            clear hc
            simp only [go_sem, W_cond, W_block]
            have hc := word_does none trivial (b ++ [109]) t.s.length (by simp; omega)
            try simp only [go_sem, List.length_append, bArg, bOb] at hc
            refine WCallDR_does hc (by rfl) (by rfl) ?_
            clear hc
            simp only [go_sem, W_cond, W_block]
            have hc := put_own (b ++ [109] ++ be4 t.s.length) t.s false false (by simp [be4_length]; omega)
            try simp only [go_sem, List.length_append, be4_length] at hc
            refine WCallDR_does hc (by rfl) (by rfl) ?_
            clear hc
            simp only [go_sem, W_cond, W_block]
            exact ⟨by kernel_rfl, by simp [be4_length]; omega, by simp⟩

theorem term1_does : ∀ m, Term1 m
  | 0 => fun a ha b t hm => by have := tsz_pos t; omega
  | m + 1 => fun a ha b t hm hm2 hwf hb => by
    cases a with
    | none => exact term1_arr false 0 m (term1_does m) ha b t hm hm2 hwf hb
    | some p => obtain ⟨m', sz⟩ := p; exact term1_sl m' sz m (term1_does m) ha b t hm hm2 hwf hb

/-! ### what may be is not great -/

mutual
theorem chk_wf : ∀ (t : T) (deep left : Int), (chk t deep left).1 = true → wfB t = true ∧ (tsz t : Int) ≤ left - (chk t deep left).2
  | .mk kind neg ln l s n kn k, deep, left => by
    rw [chk]
    split
    · simp
    · split
      · rename_i h4
        intro h
        obtain ⟨q1, q2, q3⟩ := chkC_wf k deep (left - 1) h
        refine ⟨by rw [wfB, if_pos h4, q1, q2]; simp, ?_⟩
        rw [tsz]; omega
      · rename_i h4
        intro h
        obtain ⟨q2, q3⟩ := chkKs_wf k (deep + 1) (left - 1) h
        refine ⟨by rw [wfB, if_neg h4, q2]; simp, ?_⟩
        rw [tsz]; omega
theorem chkC_wf : ∀ (k : List T) (deep left : Int), (chkC k deep left).1 = true → k.length = 2 ∧ wfKs k = true ∧ (tszs k : Int) ≤ left - (chkC k deep left).2
  | [x, y], deep, left => by
    rw [chkC]
    split
    · rename_i hh
      intro h
      have hx := chk_wf x (deep + 1) left hh
      have hy := chk_wf y deep (chk x (deep + 1) left).2 h
      refine ⟨rfl, by simp [wfKs, hx.1, hy.1], ?_⟩
      simp only [tszs]
      omega
    · simp
  | [], deep, left => by rw [chkC]; simp
  | [_], deep, left => by rw [chkC]; simp
  | _ :: _ :: _ :: _, deep, left => by rw [chkC]; simp
theorem chkKs_wf : ∀ (k : List T) (deep left : Int), (chkKs k deep left).1 = true → wfKs k = true ∧ (tszs k : Int) ≤ left - (chkKs k deep left).2
  | [], deep, left => by rw [chkKs]; simp [wfKs, tszs]
  | t :: k, deep, left => by
    rw [chkKs]
    split
    · rename_i hh
      intro h
      have ht := chk_wf t deep left hh
      have hk := chkKs_wf k deep (chk t deep left).2 h
      refine ⟨by rw [wfKs, ht.1, hk.1]; rfl, ?_⟩
      rw [tszs]
      omega
    · simp
end
end Go.Proofs.Ythbbollhojdjdaa
