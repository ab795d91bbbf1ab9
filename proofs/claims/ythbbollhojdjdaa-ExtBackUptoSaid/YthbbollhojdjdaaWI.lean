/- WALKS, 18: the reader: a list, a term; ext.Get. Conditions: the place lies in the bytes. -/
import Derived.Test.YthbbollhojdjdaaWH
namespace Go.Proofs.Ythbbollhojdjdaa
open Go.Ab
set_option maxRecDepth 100000
set_option linter.unusedSimpArgs false
set_option linter.unusedVariables false

def rList (B : List UInt8) (m : Nat) (deep : Int) (pos : Nat) (terms : Int) : Except Int (T × Nat × Int) :=
  match rMany B 4 1 (2000 - terms) pos with
  | .error c => .error c
  | .ok n => match rSome (rTerm B m (deep + 1)) n (pos + 4) (terms + n) with
    | .error c => .error c
    | .ok (l, p, k) => match rTerm B m deep p k with
      | .error c => .error c
      | .ok (t, p', k') => if t.kind = 4 then .error 4 else .ok (listT l t, p', k')

theorem tA_T0 : tA T0 = .agg [.int .i64 0, .bool false, .sl true 1 [] false, .str [], .int .i64 0, .sl true 6 [] false] := by rw [tA, tC_T0]

theorem list_does (m : Nat) (IH : TermSpec m) (bn : Bool) (B : List UInt8) (hbn : bn = true → B = []) (hB : B.length ≤ 1000000000) (deep : Int) (hd1 : 1 ≤ deep) (hd2 : deep ≤ 60) (pos : Nat) (terms : Int) (hp : pos ≤ B.length)
    (ht1 : 0 ≤ terms) (ht2 : terms ≤ 1999) (hm : B.length < pos + m) :
    CallsA Try.prog 56 [.ref (.arg 0) 0, .int .i64 deep] [some ⟨rdC bn B pos (terms + 1) 0, true⟩, none] (TermQ [none] bn B (rList B m deep pos terms)) := by
  refine CallsA.of (E := env) ttok mixed Try.func56 (by kernel_rfl) rfl (by kernel_rfl) (rl := [.cell 4 28]) rfl (Nat.le_of_ble_eq_true rfl) false ?_
  have w1 : IntKind.i64.wrap (2001 - (terms + 1)) = 2000 - terms := by rw [wrap64_id _ (by omega) (by omega)]; omega
  have wd : IntKind.i64.wrap (deep + 1) = deep + 1 := wrap64_id _ (by omega) (by omega)
  simp only [go_sem, W_cond, W_block, rdC, w1]
  cases hmy : rMany B 4 1 (2000 - terms) pos with
  | error c =>
    obtain ⟨hc0, pos', hp', hc⟩ := many_err (bn := bn) (terms := terms + 1) hB hp (by omega) hmy
    simp only [Int.natCast_one, Int.cast_ofNat_Int] at hc
    have hc := hc
    try simp only [go_sem, List.length_append, rdC] at hc
    refine WCallR_does hc (by rfl) (by rfl) ?_
    clear hc
    simp only [go_sem, W_cond, W_block]
    generalize IntKind.i64.wrap (terms + 1 + IntKind.i64.wrap (-1)) = tx
    simp only [go_sem, W_cond, W_block, wd]
    have hc := some_zero bn B pos' tx c (deep + 1)
    try simp only [go_sem, List.length_append, rdC] at hc
    refine WCallR_does hc (by rfl) (by rfl) ?_
    clear hc
    simp only [go_sem, W_cond, W_block]
    have hc := term_e bn B pos' tx c deep hc0
    try simp only [go_sem, List.length_append, rdC, tA, tC_T0] at hc
    refine WCallR_does hc (by rfl) (by rfl) ?_
    clear hc
    simp only [go_sem, W_cond, W_block]
    have hc := List_does true false [] T0 (by simp)
    try simp only [go_sem, List.length_append, listT, List.foldr_nil, tA, tC_T0, tKs] at hc
    refine WCallR_does hc (by rfl) (by rfl) ?_
    clear hc
    simp only [go_sem, W_cond, W_block]
    exact ⟨T0, pos', tx, c, by rw [tA, tC_T0], rfl, rfl, by rw [rList, hmy]; exact ⟨rfl, hc0⟩⟩
  | ok n =>
    obtain ⟨hl1, hl2, hl3⟩ := rMany_le hmy
    have hc := many_ok (bn := bn) (terms := terms + 1) hB (by omega) hmy
    simp only [Int.natCast_one, Int.cast_ofNat_Int] at hc
    have w2 : IntKind.i64.wrap ((n : Int) - 1) = (n : Int) - 1 := wrap64_id _ (by omega) (by omega)
    have w3 : IntKind.i64.wrap (terms + 1 + ((n : Int) - 1)) = terms + n := by rw [wrap64_id _ (by omega) (by omega)]; omega
    have hc := hc
    try simp only [go_sem, List.length_append, rdC] at hc
    refine WCallR_does hc (by rfl) (by rfl) ?_
    clear hc
    simp only [go_sem, W_cond, W_block, w2, w3, wd]
    have hsome := some_does m IH bn B hbn hB (deep + 1) (by omega) (by omega) n (by omega) (pos + 4) (terms + n) hl1 (by omega) (by omega) (by omega)
    simp only [rdC] at hsome
    refine WCallR_any hsome (by rfl) (by rfl) ?_
    clear hsome
    rintro _ _ _ ⟨kn, l, pos', terms', e', rfl, rfl, rfl, hll, hkn, hres⟩
    rw [rdC]
    simp only [go_sem, W_cond, W_block]
    cases hx : rSome (rTerm B m (deep + 1)) n (pos + 4) (terms + n) with
    | error c =>
      rw [hx] at hres
      obtain ⟨rfl, hc0⟩ := hres
      have hc := term_e bn B pos' terms' e' deep hc0
      try simp only [go_sem, List.length_append, rdC, tA, tC_T0] at hc
      refine WCallR_does hc (by rfl) (by rfl) ?_
      clear hc
      simp only [go_sem, W_cond, W_block]
      have hl0 := List_does kn false l T0 (by omega)
      rw [tA_T0] at hl0
      have hc := hl0
      try simp only [go_sem, List.length_append, tA_eq] at hc
      refine WCallR_does hc (by rfl) (by rfl) ?_
      clear hc
      simp only [go_sem, W_cond, W_block]
      exact ⟨listT l T0, pos', terms', e', by rw [tA_eq], rfl, rfl, by rw [rList, hmy]; simp only; rw [hx]; exact ⟨rfl, hc0⟩⟩
    | ok b =>
      obtain ⟨l', p', k'⟩ := b
      rw [hx] at hres
      obtain ⟨heq, rfl⟩ := hres
      cases heq
      obtain ⟨v1, v2, v3, v4, v5⟩ := rSome_bnd (lo := 0) (fun pos terms t p k _ a b c e => rTerm_bnd m (deep + 1) pos terms t p k a b c e) n (pos + 4) (terms + n) l pos' terms' (by omega) hl1 (by omega) (by omega) hx
      have hterm := IH bn B hbn hB deep hd1 (by omega) pos' terms' v2 (by omega) v4 (by omega)
      simp only [rdC] at hterm
      refine WCallR_any hterm (by rfl) (by rfl) ?_
      clear hterm
      rintro _ _ _ ⟨t, p2, k2, e2, rfl, rfl, rfl, hres⟩
      rw [rdC]
      cases hy : rTerm B m deep pos' terms' with
      | error c =>
        rw [hy] at hres
        obtain ⟨rfl, hc0⟩ := hres
        by_cases hk : t.kind = 4
        · simp only [go_sem, W_cond, W_block, tA_eq, hk]
          have hc := fail_does bn B p2 k2 e2 4
          try simp only [go_sem, List.length_append, rdC, hc0] at hc
          refine WCallR_does hc (by rfl) (by rfl) ?_
          clear hc
          simp only [go_sem, W_cond, W_block]
          have hc := List_does kn false l t (by omega)
          try simp only [go_sem, List.length_append, tA_eq, hk] at hc
          refine WCallR_does hc (by rfl) (by rfl) ?_
          clear hc
          simp only [go_sem, W_cond, W_block]
          exact ⟨listT l t, p2, k2, e2, by rw [tA_eq], rfl, rfl, by rw [rList, hmy]; simp only; rw [hx]; simp only; rw [hy]; exact ⟨rfl, hc0⟩⟩
        · simp only [go_sem, W_cond, W_block, tA_eq, hk]
          have hc := List_does kn false l t (by omega)
          try simp only [go_sem, List.length_append, tA_eq] at hc
          refine WCallR_does hc (by rfl) (by rfl) ?_
          clear hc
          simp only [go_sem, W_cond, W_block]
          exact ⟨listT l t, p2, k2, e2, by rw [tA_eq], rfl, rfl, by rw [rList, hmy]; simp only; rw [hx]; simp only; rw [hy]; exact ⟨rfl, hc0⟩⟩
      | ok b =>
        obtain ⟨t', p3, k3⟩ := b
        rw [hy] at hres
        obtain ⟨heq, rfl⟩ := hres
        cases heq
        by_cases hk : t.kind = 4
        · simp only [go_sem, W_cond, W_block, tA_eq, hk]
          have hc := fail_does bn B p2 k2 0 4
          try simp only [go_sem, List.length_append, rdC] at hc
          refine WCallR_does hc (by rfl) (by rfl) ?_
          clear hc
          simp only [go_sem, W_cond, W_block]
          have hc := List_does kn false l t (by omega)
          try simp only [go_sem, List.length_append, tA_eq, hk] at hc
          refine WCallR_does hc (by rfl) (by rfl) ?_
          clear hc
          simp only [go_sem, W_cond, W_block]
          exact ⟨listT l t, p2, k2, 4, by rw [tA_eq], rfl, rfl, by rw [rList, hmy]; simp only; rw [hx]; simp only; rw [hy]; simp only; rw [if_pos hk]; exact ⟨rfl, by decide⟩⟩
        · simp only [go_sem, W_cond, W_block, tA_eq, hk]
          have hc := List_does kn false l t (by omega)
          try simp only [go_sem, List.length_append, tA_eq] at hc
          refine WCallR_does hc (by rfl) (by rfl) ?_
          clear hc
          simp only [go_sem, W_cond, W_block]
          exact ⟨listT l t, p2, k2, 0, by rw [tA_eq], rfl, rfl, by rw [rList, hmy]; simp only; rw [hx]; simp only; rw [hy]; simp only; rw [if_neg hk]; exact ⟨rfl, rfl⟩⟩

theorem take1 {B : List UInt8} {pos : Nat} {tag : UInt8} (h : B[pos]? = some tag) : pos < B.length ∧ rTake B 1 pos = .ok [tag] := by
  have hlt : pos < B.length := by
    rcases Nat.lt_or_ge pos B.length with h' | h'
    · exact h'
    · rw [List.getElem?_eq_none h'] at h; cases h
  refine ⟨hlt, ?_⟩
  rw [rTake, if_pos (by omega), slc, List.drop_eq_getElem_cons hlt]
  rw [List.getElem?_eq_getElem hlt] at h
  cases h
  rfl

set_option maxHeartbeats 1000000 in
theorem term_step (m : Nat) (IH : TermSpec m) (bn : Bool) (B : List UInt8) (hbn : bn = true → B = []) (hB : B.length ≤ 1000000000) (deep : Int) (hd1 : 1 ≤ deep) (hd2 : deep ≤ 61) (pos : Nat) (terms : Int) (hp : pos ≤ B.length) (ht1 : 0 ≤ terms) (ht2 : terms ≤ 2000) (hm : B.length < pos + (m + 1)) :
    CallsA Try.prog 31 [.ref (.arg 0) 0, .int .i64 deep] [some ⟨rdC bn B pos terms 0, true⟩, none] (TermQ [none] bn B (rTerm B (m + 1) deep pos terms)) := by
    refine CallsA.of (E := env) ttok mixed Try.func31 (by kernel_rfl) rfl (by kernel_rfl) (rl := [.cell 4 28]) rfl (Nat.le_of_ble_eq_true rfl) false ?_
    cases hb : B[pos]? with
    | none =>
      have hlen : B.length ≤ pos := List.getElem?_eq_none_iff.1 hb
      have hk : rTake B 1 pos = .error 3 := by rw [rTake, if_neg (by omega)]
      simp only [go_sem, W_cond, W_block, rdC]
      have hc := take_not (bn := bn) (terms := terms) hB hp hk 1 rfl
      try simp only [go_sem, List.length_append, rdC] at hc
      refine WCallR_does hc (by rfl) (by rfl) ?_
      clear hc
      simp only [go_sem, W_cond, W_block]
      exact ⟨T0, pos, terms, 3, by rw [tA_T0], rfl, rfl, by rw [rTerm, hb]; exact ⟨rfl, by decide⟩⟩
    | some tag =>
      obtain ⟨hlt, hk⟩ := take1 hb
      have w1 : IntKind.i64.wrap (terms + 1) = terms + 1 := wrap64_id _ (by omega) (by omega)
      have wd : IntKind.i64.wrap (deep + 1) = deep + 1 := wrap64_id _ (by omega) (by omega)
      have hbn' : bn = false := by
        cases bn with
        | false => rfl
        | true => rw [hbn rfl] at hlt; simp at hlt
      subst hbn'
      simp only [go_sem, W_cond, W_block, rdC]
      have hc := take_at (bn := false) (terms := terms) hB hk 1 rfl
      try simp only [go_sem, List.length_append, rdC, bsl_cons, bsl_nil] at hc
      refine WCallR_does hc (by rfl) (by rfl) ?_
      clear hc
      by_cases c1 : terms + 1 > 2000
      · simp only [go_sem, W_cond, W_block, w1, ofByte, c1]
        have hc := fail_does false B (pos + 1) (terms + 1) 0 4
        try simp only [go_sem, List.length_append, rdC] at hc
        refine WCallR_does hc (by rfl) (by rfl) ?_
        clear hc
        simp only [go_sem, W_cond, W_block]
        exact ⟨T0, pos + 1, terms + 1, 4, by rw [tA_T0], rfl, rfl, by rw [rTerm, hb]; simp only; rw [if_pos (.inl c1)]; exact ⟨rfl, by decide⟩⟩
      · by_cases c2 : deep > 60
        · simp only [go_sem, W_cond, W_block, w1, ofByte, c1, c2]
          have hc := fail_does false B (pos + 1) (terms + 1) 0 4
          try simp only [go_sem, List.length_append, rdC] at hc
          refine WCallR_does hc (by rfl) (by rfl) ?_
          clear hc
          simp only [go_sem, W_cond, W_block]
          exact ⟨T0, pos + 1, terms + 1, 4, by rw [tA_T0], rfl, rfl, by rw [rTerm, hb]; simp only; rw [if_pos (.inr c2)]; exact ⟨rfl, by decide⟩⟩
        · have hno : ¬ (terms + 1 > 2000 ∨ deep > 60) := by omega
          have hplain := plain_does false B hbn hB tag pos (by omega) (terms + 1)
          have n97 : tag = 97 → ((tag.toNat : Int) = 97) = True := fun h => eq_true (by rw [h]; rfl)
          have m97 : ¬ tag = 97 → ((tag.toNat : Int) = 97) = False := fun h => (u8_eq tag 97 (by decide)).trans (eq_false h)
          have n98 : tag = 98 → ((tag.toNat : Int) = 98) = True := fun h => eq_true (by rw [h]; rfl)
          have m98 : ¬ tag = 98 → ((tag.toNat : Int) = 98) = False := fun h => (u8_eq tag 98 (by decide)).trans (eq_false h)
          have n110 : tag = 110 → ((tag.toNat : Int) = 110) = True := fun h => eq_true (by rw [h]; rfl)
          have m110 : ¬ tag = 110 → ((tag.toNat : Int) = 110) = False := fun h => (u8_eq tag 110 (by decide)).trans (eq_false h)
          have n119 : tag = 119 → ((tag.toNat : Int) = 119) = True := fun h => eq_true (by rw [h]; rfl)
          have m119 : ¬ tag = 119 → ((tag.toNat : Int) = 119) = False := fun h => (u8_eq tag 119 (by decide)).trans (eq_false h)
          have n109 : tag = 109 → ((tag.toNat : Int) = 109) = True := fun h => eq_true (by rw [h]; rfl)
          have m109 : ¬ tag = 109 → ((tag.toNat : Int) = 109) = False := fun h => (u8_eq tag 109 (by decide)).trans (eq_false h)
          have n106 : tag = 106 → ((tag.toNat : Int) = 106) = True := fun h => eq_true (by rw [h]; rfl)
          have m106 : ¬ tag = 106 → ((tag.toNat : Int) = 106) = False := fun h => (u8_eq tag 106 (by decide)).trans (eq_false h)
          have n108 : tag = 108 → ((tag.toNat : Int) = 108) = True := fun h => eq_true (by rw [h]; rfl)
          have m108 : ¬ tag = 108 → ((tag.toNat : Int) = 108) = False := fun h => (u8_eq tag 108 (by decide)).trans (eq_false h)
          have n104 : tag = 104 → ((tag.toNat : Int) = 104) = True := fun h => eq_true (by rw [h]; rfl)
          have m104 : ¬ tag = 104 → ((tag.toNat : Int) = 104) = False := fun h => (u8_eq tag 104 (by decide)).trans (eq_false h)
          simp only [rdC] at hplain
          by_cases h97 : tag = 97
          · simp only [go_sem, W_cond, W_block, w1, ofByte, c1, c2, n97 h97]
            refine WCallR_any hplain (by rfl) (by rfl) ?_
            rintro _ _ _ ⟨t, p2, k2, e2, rfl, rfl, rfl, hres⟩
            rw [rdC]
            simp only [go_sem, W_cond, W_block, tA_eq]
            exact ⟨t, p2, k2, e2, by rw [tA_eq], rfl, rfl, by rw [rTerm, hb]; simp only; rw [if_neg hno, if_pos (by rw [h97]; rfl)]; exact hres⟩
          have p97 := m97 h97
          by_cases h98 : tag = 98
          · simp only [go_sem, W_cond, W_block, w1, ofByte, c1, c2, p97, n98 h98]
            refine WCallR_any hplain (by rfl) (by rfl) ?_
            rintro _ _ _ ⟨t, p2, k2, e2, rfl, rfl, rfl, hres⟩
            rw [rdC]
            simp only [go_sem, W_cond, W_block, tA_eq]
            exact ⟨t, p2, k2, e2, by rw [tA_eq], rfl, rfl, by rw [rTerm, hb]; simp only; rw [if_neg hno, if_pos (by rw [h98]; rfl)]; exact hres⟩
          have p98 := m98 h98
          by_cases h110 : tag = 110
          · simp only [go_sem, W_cond, W_block, w1, ofByte, c1, c2, p97, p98, n110 h110]
            refine WCallR_any hplain (by rfl) (by rfl) ?_
            rintro _ _ _ ⟨t, p2, k2, e2, rfl, rfl, rfl, hres⟩
            rw [rdC]
            simp only [go_sem, W_cond, W_block, tA_eq]
            exact ⟨t, p2, k2, e2, by rw [tA_eq], rfl, rfl, by rw [rTerm, hb]; simp only; rw [if_neg hno, if_pos (by rw [h110]; rfl)]; exact hres⟩
          have p110 := m110 h110
          by_cases h119 : tag = 119
          · simp only [go_sem, W_cond, W_block, w1, ofByte, c1, c2, p97, p98, p110, n119 h119]
            refine WCallR_any hplain (by rfl) (by rfl) ?_
            rintro _ _ _ ⟨t, p2, k2, e2, rfl, rfl, rfl, hres⟩
            rw [rdC]
            simp only [go_sem, W_cond, W_block, tA_eq]
            exact ⟨t, p2, k2, e2, by rw [tA_eq], rfl, rfl, by rw [rTerm, hb]; simp only; rw [if_neg hno, if_pos (by rw [h119]; rfl)]; exact hres⟩
          have p119 := m119 h119
          by_cases h109 : tag = 109
          · simp only [go_sem, W_cond, W_block, w1, ofByte, c1, c2, p97, p98, p110, p119, n109 h109]
            refine WCallR_any hplain (by rfl) (by rfl) ?_
            rintro _ _ _ ⟨t, p2, k2, e2, rfl, rfl, rfl, hres⟩
            rw [rdC]
            simp only [go_sem, W_cond, W_block, tA_eq]
            exact ⟨t, p2, k2, e2, by rw [tA_eq], rfl, rfl, by rw [rTerm, hb]; simp only; rw [if_neg hno, if_pos (by rw [h109]; rfl)]; exact hres⟩
          have p109 := m109 h109
          by_cases h106 : tag = 106
          · simp only [go_sem, W_cond, W_block, w1, ofByte, c1, c2, p97, p98, p110, p119, p109, n106 h106]
            refine WCallR_any hplain (by rfl) (by rfl) ?_
            rintro _ _ _ ⟨t, p2, k2, e2, rfl, rfl, rfl, hres⟩
            rw [rdC]
            simp only [go_sem, W_cond, W_block, tA_eq]
            exact ⟨t, p2, k2, e2, by rw [tA_eq], rfl, rfl, by rw [rTerm, hb]; simp only; rw [if_neg hno, if_pos (by rw [h106]; rfl)]; exact hres⟩
          have p106 := m106 h106
          have hnp : ¬ isPlain tag = true := by simp [isPlain, h97, h98, h110, h119, h109, h106]
          by_cases h108 : tag = 108
          · simp only [go_sem, W_cond, W_block, w1, ofByte, c1, c2, p97, p98, p110, p119, p109, p106, n108 h108]
            have hlist := list_does m IH false B hbn hB deep hd1 (by omega) (pos + 1) terms (by omega) ht1 (by omega) (by omega)
            simp only [rdC] at hlist
            refine WCallR_any hlist (by rfl) (by rfl) ?_
            rintro _ _ _ ⟨t, p2, k2, e2, rfl, rfl, rfl, hres⟩
            rw [rdC]
            simp only [go_sem, W_cond, W_block, tA_eq]
            exact ⟨t, p2, k2, e2, by rw [tA_eq], rfl, rfl, by rw [rTerm, hb]; simp only; rw [if_neg hno, if_neg hnp, if_pos h108]; exact hres⟩
          have p108 := m108 h108
          by_cases h104 : tag = 104
          · simp only [go_sem, W_cond, W_block, w1, ofByte, c1, c2, p97, p98, p110, p119, p109, p106, p108, n104 h104]
            have htup : ∀ (kn : Bool) (l : List T), kn = emp l → tA (tupT l) = .agg [.int .i64 5, .bool false, .sl true 1 [] false, .str [], .int .i64 0, .sl kn 6 (tKs l) false] := by
              intro kn l h
              rw [h]
              simp only [tupT, tA, tC, lsl_nil]
            cases hmy : rMany B 1 0 40 (pos + 1) with
            | error c =>
              obtain ⟨hc0, pos', hp', hc⟩ := many_err (bn := false) (terms := terms + 1) hB (by omega) (by omega) hmy
              simp only [Int.natCast_one, Int.cast_ofNat_Int] at hc
              have hc := hc
              try simp only [go_sem, List.length_append, rdC] at hc
              refine WCallR_does hc (by rfl) (by rfl) ?_
              clear hc
              simp only [go_sem, W_cond, W_block, wd]
              have hc := some_zero false B pos' (terms + 1) c (deep + 1)
              try simp only [go_sem, List.length_append, rdC] at hc
              refine WCallR_does hc (by rfl) (by rfl) ?_
              clear hc
              simp only [go_sem, W_cond, W_block]
              exact ⟨tupT [], pos', terms + 1, c, by rw [htup true [] rfl, tKs], rfl, rfl, by rw [rTerm, hb]; simp only; rw [if_neg hno, if_neg hnp, if_neg h108, if_pos h104, hmy]; exact ⟨rfl, hc0⟩⟩
            | ok n =>
              obtain ⟨hl1, hl2, hl3⟩ := rMany_le hmy
              have hc := many_ok (bn := false) (terms := terms + 1) hB (by omega) hmy
              simp only [Int.natCast_one, Int.cast_ofNat_Int] at hc
              have hc := hc
              try simp only [go_sem, List.length_append, rdC] at hc
              refine WCallR_does hc (by rfl) (by rfl) ?_
              clear hc
              simp only [go_sem, W_cond, W_block, wd]
              have hsome := some_does m IH false B hbn hB (deep + 1) (by omega) (by omega) n (by omega) (pos + 1 + 1) (terms + 1) hl1 (by omega) (by omega) (by omega)
              simp only [rdC] at hsome
              refine WCallR_any hsome (by rfl) (by rfl) ?_
              rintro _ _ _ ⟨kn, l, pos', terms', e', rfl, rfl, rfl, hll, hkn, hres⟩
              rw [rdC]
              simp only [go_sem, W_cond, W_block]
              refine ⟨tupT l, pos', terms', e', by rw [htup kn l hkn], rfl, rfl, ?_⟩
              rw [rTerm, hb]
              simp only
              rw [if_neg hno, if_neg hnp, if_neg h108, if_pos h104, hmy]
              simp only
              cases hx : rSome (rTerm B m (deep + 1)) n (pos + 1 + 1) (terms + 1) with
              | error c => rw [hx] at hres; exact hres
              | ok b =>
                rw [hx] at hres
                obtain ⟨h1, h2⟩ := hres
                subst h1
                exact ⟨rfl, h2⟩
          have p104 := m104 h104
          simp only [go_sem, W_cond, W_block, w1, ofByte, c1, c2, p97, p98, p110, p119, p109, p106, p108, p104]
          have hc := fail_does false B (pos + 1) (terms + 1) 0 4
          try simp only [go_sem, List.length_append, rdC] at hc
          refine WCallR_does hc (by rfl) (by rfl) ?_
          clear hc
          simp only [go_sem, W_cond, W_block]
          exact ⟨T0, pos + 1, terms + 1, 4, by rw [tA_T0], rfl, rfl, by rw [rTerm, hb]; simp only; rw [if_neg hno, if_neg hnp, if_neg h108, if_neg h104]; exact ⟨rfl, by decide⟩⟩

theorem term_does : ∀ m, TermSpec m
  | 0 => fun bn B hbn hB deep hd1 hd2 pos terms hp ht1 ht2 hm => by omega
  | m + 1 => term_step m (term_does m)
end Go.Proofs.Ythbbollhojdjdaa
