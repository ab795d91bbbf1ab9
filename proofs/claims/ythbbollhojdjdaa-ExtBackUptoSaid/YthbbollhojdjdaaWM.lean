/- WALKS, 22: places; ExtLong. Conditions: none. -/
import Derived.Test.YthbbollhojdjdaaWL
import Derived.Test.YthbbollhojdjdaaQ2
namespace Go.Proofs.Ythbbollhojdjdaa
open Go.Ab
set_option maxRecDepth 100000
set_option linter.unusedSimpArgs false
set_option linter.unusedVariables false

theorem Place_does (v n : Int) (h1 : 0 < n) (h2 : n ≤ 4611686018427387904) : FDoes Try.prog 18 [.int .i64 v, .int .i64 n] [none, none] [.v (.int .i64 (v % n))] [none, none] none := by
  refine FDoes.of (E := env) ttok mixed Try.func18 (by kernel_rfl) rfl (by kernel_rfl) (rl := [.tmp 4]) rfl (Nat.le_of_ble_eq_true rfl) false ?_
  have hn : ¬ n = 0 := by omega
  have ht : v.tmod n = if 0 ≤ v ∨ v % n = 0 then v % n else v % n - n := by
    rw [Int.tmod_eq_emod]
    by_cases h0 : 0 ≤ v
    · rw [if_pos (.inl h0), if_pos (.inl h0)]; omega
    · by_cases hd : n ∣ v
      · rw [if_pos (.inr hd), if_pos (.inr (Int.emod_eq_zero_of_dvd hd))]; omega
      · have : ¬ v % n = 0 := fun e => hd (Int.dvd_of_emod_eq_zero e)
        rw [if_neg (by rintro (h | h); exact h0 h; exact hd h), if_neg (by rintro (h | h); exact h0 h; exact this h)]
        omega
  have hb1 := Int.emod_nonneg v hn
  have hb2 := Int.emod_lt_of_pos v h1
  by_cases hc : 0 ≤ v ∨ v % n = 0
  · rw [if_pos hc] at ht
    have h0 : ¬ v % n < 0 := by omega
    simp only [go_sem, W_cond, W_block, hn, ht, h0]
  · rw [if_neg hc] at ht
    have h0 : v % n - n < 0 := by omega
    have hw : IntKind.i64.wrap (v % n - n + n) = v % n := by rw [wrap64_id _ (by omega) (by omega)]; omega
    simp only [go_sem, W_cond, W_block, hn, ht, h0, hw]

def headB (k : Nat) : List UInt8 := [108, 0, 0, u8i ((k : Int).fdiv 256), u8i (k : Int)]
theorem headB_be4 (k : Nat) (h : k < 65536) : headB k = 108 :: be4 (k : Nat) := by
  unfold headB be4
  have f : ∀ d : Nat, 65536 ≤ d → u8i ((k : Int).fdiv (d : Nat)) = 0 := by
    intro d hd
    unfold u8i
    rw [Int.fdiv_eq_ediv_of_nonneg _ (by omega), IntKind.wrap_u8, Int.ediv_eq_zero_of_lt (by omega) (by omega)]
    rfl
  have e1 : u8i ((k : Int).fdiv 16777216) = 0 := f 16777216 (by omega)
  have e2 : u8i ((k : Int).fdiv 65536) = 0 := f 65536 (by omega)
  rw [e1, e2]
theorem longB_head (k : Nat) (h : k < 65536) : longB k = headB k ++ List.replicate k 106 ++ [106] := by
  rw [headB_be4 k h, longB, List.replicate_succ']
  simp
theorem pairs_len (d : Nat) : ((List.replicate d [(104 : UInt8), 1]).flatten).length = 2 * d := by
  induction d with
  | zero => rfl
  | succ d ih => rw [List.replicate_succ, List.flatten_cons, List.length_append, ih]; simp; omega

def GroA (k i : Nat) (a : AV) (hp : HP) : Prop := (i = 0 ∧ a = .sl false 1 (bsl (headB k)) true) ∨ ∃ c, a = .arr (.loc 35 2 c) 0 (5 + i) 1 ∧ hp (.loc 35 2 c) = some ⟨bce (headB k ++ List.replicate i 106), true⟩
def LonA (k : Nat) (a : AV) (hp : HP) : Prop := ∃ c, a = .arr (.loc 38 2 c) 0 (longB k).length 1 ∧ hp (.loc 38 2 c) = some ⟨bce (longB k), true⟩
def GroB (i : Nat) (a : AV) (hp : HP) : Prop := (i = 0 ∧ a = .sl true 0 [] true) ∨ ∃ c, a = .arr (.loc 60 2 c) 0 (2 * i) 1 ∧ hp (.loc 60 2 c) = some ⟨bce (List.replicate i [(104 : UInt8), 1]).flatten, true⟩

theorem ExtLong_does (n deep : Int) : FDoes Try.prog 6 [.int .i64 n, .int .i64 deep] [none, none] [.v (.bool true)] [none, none] none := by
  refine FDoes.of (E := env) ttok mixed Try.func6 (by kernel_rfl) rfl (by kernel_rfl) (rl := [.tmp 4]) rfl (Nat.le_of_ble_eq_true rfl) false ?_
  have hk1 := Int.emod_nonneg n (b := 1100) (by omega)
  have hk2 := Int.emod_lt_of_pos n (b := 1100) (by omega)
  have hd1 := Int.emod_nonneg deep (b := 70) (by omega)
  have hd2 := Int.emod_lt_of_pos deep (b := 70) (by omega)
  have hp1 := Place_does n 1100 (by omega) (by omega)
  have hp2 := Place_does deep 70 (by omega) (by omega)
  obtain ⟨k, hk⟩ : ∃ k : Nat, n % 1100 = (k : Int) := ⟨(n % 1100).toNat, by omega⟩
  obtain ⟨d, hd⟩ : ∃ d : Nat, deep % 70 = (d : Int) := ⟨(deep % 70).toNat, by omega⟩
  rw [hk] at hp1 hk2
  rw [hd] at hp2 hd2
  have h108 : AV.int .u8 108 = ofByte 108 := rfl
  have h106 : AV.int .u8 106 = ofByte 106 := rfl
  have h104 : AV.int .u8 104 = ofByte 104 := rfl
  have h0' : AV.int .u8 0 = ofByte 0 := rfl
  have h1' : AV.int .u8 1 = ofByte 1 := rfl
  simp only [go_sem, W_cond, W_block]
  have hc := hp1
  try simp only [go_sem, List.length_append] at hc
  refine WCallR_does hc (by rfl) (by rfl) ?_
  clear hc
  simp only [go_sem, W_cond, W_block]
  have hc := hp2
  try simp only [go_sem, List.length_append] at hc
  refine WCallR_does hc (by rfl) (by rfl) ?_
  clear hc
  simp only [go_sem, W_cond, toByte, h108, h0']
  refine W_cut (fun st => st.tm 5 = .int .i64 k ∧ st.tm 6 = .int .i64 d ∧ st.hp (.arg 0) = none ∧ st.hp (.arg 1) = none ∧ GroA k k (st.tm 7) st.hp) ?_ ?_
  · simp only [go_sem, W_cond, W_block]
    refine W_loop (fun (i : Nat) st => i ≤ k ∧ st.tm 5 = .int .i64 k ∧ st.tm 6 = .int .i64 d ∧ st.tm 8 = .int .i64 i ∧ st.hp (.arg 0) = none ∧ st.hp (.arg 1) = none ∧ GroA k i (st.tm 7) st.hp) (fun i => k - i) 0 ?_ ?_
    · simp only [go_sem, W_cond, W_block]
      exact .inl ⟨rfl, by simp only [headB, bsl_cons, bsl_nil]⟩
    · rintro i tm hp clk ⟨hi, g5, g6, g8, h0, h1, g7⟩
      replace g5 : tm 5 = _ := g5
      replace g6 : tm 6 = _ := g6
      replace g8 : tm 8 = _ := g8
      replace h0 : hp (.arg 0) = _ := h0
      replace h1 : hp (.arg 1) = _ := h1
      by_cases hlt : i < k
      · have hlt' : (i : Int) < (k : Int) := by omega
        have hw : IntKind.i64.wrap ((i : Int) + 1) = ((i + 1 : Nat) : Int) := by rw [wrap64_id _ (by omega) (by omega)]; omega
        have hb5 : (headB k).length = 5 := rfl
        rcases g7 with ⟨rfl, g7⟩ | ⟨c, g7, g9⟩
        · replace g7 : tm 7 = _ := g7
          have hs : bce (headB k) ++ [ofByte 106] = bce (headB k ++ List.replicate 1 106) := by rw [bce_append]; rfl
          simp only [Int.natCast_zero] at *
          simp only [go_sem, W_cond, W_block, g5, g6, g7, g8, h0, h1, hlt', hw, h106, hb5, hs]
          exact ⟨1, ⟨by omega, rfl, .inr ⟨_, rfl, by simp only [go_sem]⟩⟩, by omega⟩
        · replace g7 : tm 7 = _ := g7
          replace g9 : hp (.loc 35 2 c) = _ := g9
          have hs : bce (headB k ++ List.replicate i 106) ++ [ofByte 106] = bce (headB k ++ List.replicate (i + 1) 106) := by
            rw [List.replicate_succ', ← List.append_assoc, bce_append _ [106]]; rfl
          have hl : (headB k ++ List.replicate i (106 : UInt8)).length = 5 + i := by rw [List.length_append, hb5]; simp
          have hbnd : (5 + i + 1) ≤ 140737488355328 := by omega
          simp only [go_sem, W_cond, W_block, g5, g6, g7, g8, g9, h0, h1, hlt', hw, h106, hl, hbnd, hs]
          exact ⟨i + 1, ⟨by omega, rfl, .inr ⟨_, by rw [Nat.add_assoc], by simp only [go_sem]⟩⟩, by omega⟩
      · have hlt' : ¬ (i : Int) < (k : Int) := by omega
        have hi' : i = k := by omega
        subst hi'
        rcases g7 with ⟨hk0, g7⟩ | ⟨c, g7, g9⟩
        · replace g7 : tm 7 = _ := g7
          simp only [go_sem, W_cond, W_block, g5, g6, g7, g8, h0, h1, hlt']
          exact .inl ⟨hk0, rfl⟩
        · replace g7 : tm 7 = _ := g7
          replace g9 : hp (.loc 35 2 c) = _ := g9
          simp only [go_sem, W_cond, W_block, g5, g6, g7, g8, g9, h0, h1, hlt']
          exact .inr ⟨c, rfl, g9⟩
  · rintro tm hp clk ⟨g5, g6, h0, h1, g7⟩
    replace g5 : tm 5 = _ := g5
    replace g6 : tm 6 = _ := g6
    replace h0 : hp (.arg 0) = _ := h0
    replace h1 : hp (.arg 1) = _ := h1
    have hlb := longB_head k (by omega)
    have hll := longB_len k
    have hget := Get_does false (longB k) (fun h => by cases h) (by omega) 0 (by omega)
    rw [show ((0 : Nat) : Int) = 0 from rfl] at hget
    have hE := long_get k (by omega)
    have hch := chunk_bce (longB k)
    have htk : (bce (longB k)).take (longB k).length = bce (longB k) := List.take_of_length_le (by rw [bce_length]; exact Nat.le_refl _)
    rw [SeqK_normal]
    refine W_cutseq (fun st => st.tm 5 = .int .i64 k ∧ st.tm 6 = .int .i64 d ∧ st.hp (.arg 0) = none ∧ st.hp (.arg 1) = none ∧ LonA k (st.tm 7) st.hp) ?_ ?_
    · have hb5 : (headB k).length = 5 := rfl
      rcases g7 with ⟨rfl, g7⟩ | ⟨c, g7, g9⟩
      · replace g7 : tm 7 = _ := g7
        have hs : bce (headB 0) ++ [ofByte 106] = bce (longB 0) := by rw [hlb, bce_append]; rfl
        simp only [Int.natCast_zero] at *
        simp only [go_sem, W_cond, W_block, g5, g6, g7, h0, h1, h106, hb5, hs]
        exact ⟨_, rfl, by simp only [go_sem]⟩
      · replace g7 : tm 7 = _ := g7
        replace g9 : hp (.loc 35 2 c) = _ := g9
        have hs : bce (headB k ++ List.replicate k 106) ++ [ofByte 106] = bce (longB k) := by rw [hlb, bce_append _ [106]]; rfl
        have hl : (headB k ++ List.replicate k (106 : UInt8)).length = 5 + k := by rw [List.length_append, hb5]; simp
        have hbnd : (5 + k + 1) ≤ 140737488355328 := by omega
        simp only [go_sem, W_cond, W_block, g5, g6, g7, g9, h0, h1, h106, hl, hbnd, hs]
        exact ⟨_, by rw [hll, show k + 6 = 5 + k + 1 by omega], by simp only [go_sem]⟩
    · clear g5 g6 g7 h0 h1 tm hp clk
      rintro tm hp clk ⟨g5, g6, h0, h1, c, g7, g9⟩
      replace g5 : tm 5 = _ := g5
      replace g6 : tm 6 = _ := g6
      replace g7 : tm 7 = _ := g7
      replace g9 : hp (.loc 38 2 c) = _ := g9
      replace h0 : hp (.arg 0) = _ := h0
      replace h1 : hp (.arg 1) = _ := h1
      obtain ⟨E1, hE1⟩ : ∃ E1, E1 = getE (rGet (longB k) 0) := ⟨_, rfl⟩
      rw [← hE1] at hget hE
      refine W_cutseq (fun st => st.tm 5 = .int .i64 k ∧ st.tm 6 = .int .i64 d ∧ st.hp (.arg 0) = none ∧ st.hp (.arg 1) = none ∧ st.tm 11 = .int .i64 E1) ?_ ?_
      · simp only [go_sem, W_cond, W_block, g5, g6, g7, g9, h0, h1, hch, htk]
        have hc := hget
        try simp only [go_sem, List.length_append, tA_eq] at hc
        refine WCallR_does hc (by rfl) (by rfl) ?_
        clear hc
        simp only [go_sem, W_cond, W_block, g5, g6, g7, g9, h0, h1]
      · clear g5 g6 g7 g9 h0 h1 tm hp clk
        rintro tm hp clk ⟨g5, g6, h0, h1, g11⟩
        replace g5 : tm 5 = _ := g5
        replace g6 : tm 6 = _ := g6
        replace g11 : tm 11 = _ := g11
        replace h0 : hp (.arg 0) = _ := h0
        replace h1 : hp (.arg 1) = _ := h1
        refine W_cutseq (fun st => st.tm 5 = .int .i64 k ∧ st.tm 6 = .int .i64 d ∧ st.hp (.arg 0) = none ∧ st.hp (.arg 1) = none ∧ st.tm 11 = .int .i64 E1 ∧ st.tm 12 = .int .i64 0) ?_ ?_
        · simp only [go_sem, W_cond, W_block, g5, g6, h0, h1, g11]
        · clear g5 g6 g11 h0 h1 tm hp clk
          rintro tm hp clk ⟨g5, g6, h0, h1, g11, g12⟩
          replace g5 : tm 5 = _ := g5
          replace g6 : tm 6 = _ := g6
          replace g11 : tm 11 = _ := g11
          replace g12 : tm 12 = _ := g12
          replace h0 : hp (.arg 0) = _ := h0
          replace h1 : hp (.arg 1) = _ := h1
          refine W_cutseq (fun st => st.tm 6 = .int .i64 d ∧ st.hp (.arg 0) = none ∧ st.hp (.arg 1) = none ∧ st.tm 11 = .int .i64 E1 ∧ st.tm 12 = .int .i64 E1) ?_ ?_
          · have w1 : IntKind.i64.wrap (2 * (k : Int)) = 2 * (k : Int) := wrap64_id _ (by omega) (by omega)
            have w2 : IntKind.i64.wrap (2 * (k : Int) + 1) = 2 * (k : Int) + 1 := wrap64_id _ (by omega) (by omega)
            by_cases hk0 : (k : Int) = 0
            · have hE4 : E1 = 4 := by rw [hE, if_pos (.inl (by omega))]
              simp only [go_sem, W_cond, W_block, g5, g6, g11, g12, h0, h1, w1, w2, eq_true hk0, hE4]
            · by_cases hk1 : 2 * (k : Int) + 1 > 2000
              · have hE4 : E1 = 4 := by rw [hE, if_pos (.inr (by omega))]
                simp only [go_sem, W_cond, W_block, g5, g6, g11, g12, h0, h1, w1, w2, hk0, hk1, hE4]
              · have hE4 : E1 = 0 := by rw [hE, if_neg (by omega)]
                simp only [go_sem, W_cond, W_block, g5, g6, g11, g12, h0, h1, w1, w2, hk0, hk1, hE4]
          · clear g5 g6 g11 g12 h0 h1 tm hp clk
            rintro tm hp clk ⟨g6, h0, h1, g11, g12⟩
            replace g6 : tm 6 = _ := g6
            replace g11 : tm 11 = _ := g11
            replace g12 : tm 12 = _ := g12
            replace h0 : hp (.arg 0) = _ := h0
            replace h1 : hp (.arg 1) = _ := h1
            simp only [go_sem, W_cond, g6, g11, g12, h0, h1]
            refine W_cut (fun st => st.tm 6 = .int .i64 d ∧ st.hp (.arg 0) = none ∧ st.hp (.arg 1) = none ∧ st.tm 11 = .int .i64 E1 ∧ st.tm 12 = .int .i64 E1 ∧ GroB d (st.tm 13) st.hp) ?_ ?_
            · simp only [go_sem, W_cond, W_block]
              refine W_loop (fun (i : Nat) st => i ≤ d ∧ st.tm 14 = .int .i64 i ∧ st.tm 6 = .int .i64 d ∧ st.hp (.arg 0) = none ∧ st.hp (.arg 1) = none ∧ st.tm 11 = .int .i64 E1 ∧ st.tm 12 = .int .i64 E1 ∧ GroB i (st.tm 13) st.hp) (fun i => d - i) 0 ?_ ?_
              · simp only [go_sem, W_cond, W_block, g6, g11, g12, h0, h1]
                exact .inl ⟨rfl, rfl⟩
              · clear g6 g11 g12 h0 h1 tm hp clk
                rintro i tm hp clk ⟨hi, g14, g6, h0, h1, g11, g12, g13⟩
                replace g14 : tm 14 = _ := g14
                replace g6 : tm 6 = _ := g6
                replace g11 : tm 11 = _ := g11
                replace g12 : tm 12 = _ := g12
                replace h0 : hp (.arg 0) = _ := h0
                replace h1 : hp (.arg 1) = _ := h1
                by_cases hlt : i < d
                · have hlt' : (i : Int) < (d : Int) := by omega
                  have hw : IntKind.i64.wrap ((i : Int) + 1) = ((i + 1 : Nat) : Int) := by rw [wrap64_id _ (by omega) (by omega)]; omega
                  rcases g13 with ⟨rfl, g13⟩ | ⟨c, g13, g9⟩
                  · replace g13 : tm 13 = _ := g13
                    simp only [Int.natCast_zero] at *
                    simp only [go_sem, W_cond, W_block, g14, g6, g11, g12, g13, h0, h1, hlt', hw, h104, h1']
                    exact ⟨1, ⟨by omega, rfl, .inr ⟨_, rfl, by simp only [go_sem]; rfl⟩⟩, by omega⟩
                  · replace g13 : tm 13 = _ := g13
                    replace g9 : hp (.loc 60 2 c) = _ := g9
                    have hbnd : (2 * i + 2) ≤ 140737488355328 := by omega
                    have hl := pairs_len i
                    simp only [go_sem, W_cond, W_block, g14, g6, g11, g12, g13, g9, h0, h1, hlt', hw, h104, h1', hbnd, hl]
                    have hs : bce (List.replicate i [(104 : UInt8), 1]).flatten ++ [ofByte 104, ofByte 1] = bce (List.replicate (i + 1) [(104 : UInt8), 1]).flatten := by
                      rw [List.replicate_succ', List.flatten_append, bce_append]; rfl
                    exact ⟨i + 1, ⟨by omega, rfl, .inr ⟨_, by rw [Nat.mul_add], by simp only [go_sem, hs]⟩⟩, by omega⟩
                · have hlt' : ¬ (i : Int) < (d : Int) := by omega
                  have hi' : i = d := by omega
                  subst hi'
                  rcases g13 with ⟨hk0, g13⟩ | ⟨c, g13, g9⟩
                  · replace g13 : tm 13 = _ := g13
                    simp only [go_sem, W_cond, W_block, g14, g6, g11, g12, g13, h0, h1, hlt']
                    exact .inl ⟨hk0, rfl⟩
                  · replace g13 : tm 13 = _ := g13
                    replace g9 : hp (.loc 60 2 c) = _ := g9
                    simp only [go_sem, W_cond, W_block, g14, g6, g11, g12, g13, g9, h0, h1, hlt']
                    exact .inr ⟨c, rfl, g9⟩
            · clear g6 g11 g12 h0 h1 tm hp clk
              rintro tm hp clk ⟨g6, h0, h1, g11, g12, g13⟩
              replace g6 : tm 6 = _ := g6
              replace g11 : tm 11 = _ := g11
              replace g12 : tm 12 = _ := g12
              replace h0 : hp (.arg 0) = _ := h0
              replace h1 : hp (.arg 1) = _ := h1
              have hdl := deepB_len d
              have hget2 := Get_does false (deepB d) (fun h => by cases h) (by omega) 0 (by omega)
              rw [show ((0 : Nat) : Int) = 0 from rfl] at hget2
              have hE2 := deep_get d (by omega)
              obtain ⟨L, hL⟩ : ∃ L, 2 * d + 1 = L := ⟨_, rfl⟩
              have hch2 := chunk_bce (deepB d)
              rw [hdl, hL] at hch2
              have htk2 : (bce (deepB d)).take L = bce (deepB d) := List.take_of_length_le (by rw [bce_length, hdl, hL]; exact Nat.le_refl _)
              have hll2 : (bce (deepB d)).length = L := by rw [bce_length, hdl, hL]
              have hsn := deepB_snoc d
              have w3 : IntKind.i64.wrap ((d : Int) + 1) = (d : Int) + 1 := wrap64_id _ (by omega) (by omega)
              have hout : ∀ tm' : Nat → AV, True := fun _ => trivial
              by_cases hc : (d : Int) + 1 ≤ 60
              · have hE3 : getE (rGet (deepB d) 0) = 0 := by rw [hE2, if_pos (by omega)]
                rw [hE3] at hget2
                rcases g13 with ⟨rfl, g13⟩ | ⟨c, g13, g9⟩
                · replace g13 : tm 13 = _ := g13
                  simp only [deepB, bsl_cons, bsl_nil, Int.natCast_zero] at *
                  simp only [go_sem, W_cond, W_block, g6, g11, g12, g13, h0, h1, h106]
                  have hc := hget2
                  try simp only [go_sem, List.length_append, tA_eq] at hc
                  refine WCallR_does hc (by rfl) (by rfl) ?_
                  clear hc
                  have wr1 : IntKind.i64.wrap 1 = 1 := by decide
                  simp only [go_sem, W_cond, W_block, g6, g11, g12, h0, h1, wr1]
                  have hc := awake_does
                  try simp only [go_sem, List.length_append] at hc
                  refine WCallR_does hc (by rfl) (by rfl) ?_
                  clear hc
                  simp only [go_sem, W_cond, W_block]
                · replace g13 : tm 13 = _ := g13
                  replace g9 : hp (.loc 60 2 c) = _ := g9
                  have hs : bce (List.replicate d [(104 : UInt8), 1]).flatten ++ [ofByte 106] = bce (deepB d) := by rw [hsn, bce_append]; rfl
                  have hl := pairs_len d
                  have hbnd : L ≤ 140737488355328 := by omega
                  simp only [go_sem, W_cond, W_block, g6, g11, g12, g13, g9, h0, h1, h106, hs, hL, hch2, htk2, hl, hll2, hdl, hbnd]
                  have hc := hget2
                  try simp only [go_sem, List.length_append, tA_eq] at hc
                  refine WCallR_does hc (by rfl) (by rfl) ?_
                  clear hc
                  simp only [go_sem, W_cond, W_block, g6, g11, g12, h0, h1, w3, hc]
                  have hc := awake_does
                  try simp only [go_sem, List.length_append] at hc
                  refine WCallR_does hc (by rfl) (by rfl) ?_
                  clear hc
                  simp only [go_sem, W_cond, W_block]
              · have hE3 : getE (rGet (deepB d) 0) = 4 := by rw [hE2, if_neg (by omega)]
                rw [hE3] at hget2
                rcases g13 with ⟨rfl, g13⟩ | ⟨c, g13, g9⟩
                · exact absurd hc (by omega)
                · replace g13 : tm 13 = _ := g13
                  replace g9 : hp (.loc 60 2 c) = _ := g9
                  have hs : bce (List.replicate d [(104 : UInt8), 1]).flatten ++ [ofByte 106] = bce (deepB d) := by rw [hsn, bce_append]; rfl
                  have hl := pairs_len d
                  have hbnd : L ≤ 140737488355328 := by omega
                  simp only [go_sem, W_cond, W_block, g6, g11, g12, g13, g9, h0, h1, h106, hs, hL, hch2, htk2, hl, hll2, hdl, hbnd]
                  have hc := hget2
                  try simp only [go_sem, List.length_append, tA_eq] at hc
                  refine WCallR_does hc (by rfl) (by rfl) ?_
                  clear hc
                  simp only [go_sem, W_cond, W_block, g6, g11, g12, h0, h1, w3, hc]
                  have hc := awake_does
                  try simp only [go_sem, List.length_append] at hc
                  refine WCallR_does hc (by rfl) (by rfl) ?_
                  clear hc
                  simp only [go_sem, W_cond, W_block]
end Go.Proofs.Ythbbollhojdjdaa
