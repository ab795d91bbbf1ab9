/- WALKS, 3: a number as bytes. Conditions: lengths below the greatest. -/
import Derived.Test.YthbbollhojdjdaaW2
namespace Go.Proofs.Ythbbollhojdjdaa
open Go.Ab
set_option maxRecDepth 100000
set_option linter.unusedSimpArgs false
set_option linter.unusedVariables false

def byteAt (l : List UInt32) (i : Nat) : UInt8 := u8i (((l.getD (i / 4) 0).toNat : Int).fdiv (2 ^ (8 * (i % 4))))
def bigK (neg : Bool) (l : List UInt32) : Nat := (nbits neg l + 7) / 8
def bigHead (neg : Bool) (l : List UInt32) : List UInt8 := [110, u8i (bigK neg l), if neg = true then 1 else 0]
def encBig (neg : Bool) (l : List UInt32) : List UInt8 := bigHead neg l ++ (List.range (bigK neg l)).map (byteAt l)
def encNum (neg : Bool) (l : List UInt32) : List UInt8 :=
  if (nint neg l).isSome = true ∧ 0 ≤ (nint neg l).getD 0 ∧ (nint neg l).getD 0 ≤ 255 then [97, u8i ((nint neg l).getD 0)]
  else if (nint neg l).isSome = true ∧ -2147483648 ≤ (nint neg l).getD 0 ∧ (nint neg l).getD 0 ≤ 2147483647 then 98 :: be4 ((nint neg l).getD 0)
  else encBig neg l

theorem lenr_le : ∀ l : List UInt32, lenr l ≤ 32 * l.length
  | [] => by simp [lenr]
  | x :: r => by
    have := lenr_le r
    have := len32_le x
    unfold lenr
    simp only [List.length_cons]
    split <;> omega

theorem nbits_le (neg : Bool) (l : List UInt32) : nbits neg l ≤ 32 * l.length ∧ nbits neg l ≤ 384 := by
  unfold nbits
  split
  · rename_i h
    have := nchk_len h
    have := lenr_le l.reverse
    simp at this
    unfold blen
    omega
  · omega

theorem big_bytes (neg : Bool) (l : List UInt32) (i : Nat) (hi : i < bigK neg l) : i / 4 < l.length := by
  have := (nbits_le neg l).1
  unfold bigK at hi
  omega

theorem min_64 (i : Nat) : min (8 * ((i : Int).tmod 4)).toNat 32 = 8 * (i % 4) := by
  have : (i : Int).tmod 4 = ((i % 4 : Nat) : Int) := by
    rw [Int.tmod_eq_emod_of_nonneg (by omega)]; omega
  rw [this]
  omega

theorem number_arr (m : Bool) (sz : Nat) (ha : bOk (none)) (b : List UInt8) (neg ln : Bool) (l : List UInt32) (h : (b.length : Nat) ≤ 100000000000) :
    FDoes Try.prog 46 [bArg (none) b, numA neg ln l] [bOb (none) b, none] [.ex 0 (b ++ encNum neg l).length 1] [none, none] (some ⟨bce (b ++ encNum neg l), true⟩) := by
  refine FDoes.of (E := env) ttok mixed Try.func46 (by kernel_rfl) rfl (by kernel_rfl) (rl := [.tmp 4]) rfl (Nat.le_of_ble_eq_true rfl) true ?_
  have hbk := nbits_le neg l
  have h97 : AV.int .u8 97 = ofByte 97 := rfl
  have h98 : AV.int .u8 98 = ofByte 98 := rfl
  have h110 : AV.int .u8 110 = ofByte 110 := rfl
  have h1b : AV.int .u8 1 = ofByte 1 := rfl
  have h0b : AV.int .u8 0 = ofByte 0 := rfl
  have small : ∀ v : Int, (nint neg l) = some v → 0 ≤ v → v ≤ 255 → encNum neg l = [97, u8i v] := by
    intro v e h1 h2
    simp [encNum, e, h1, h2]
  have mid : ∀ v : Int, (nint neg l) = some v → ¬ (0 ≤ v ∧ v ≤ 255) → -2147483648 ≤ v → v ≤ 2147483647 → encNum neg l = 98 :: be4 v := by
    intro v e h1 h2 h3
    simp only [encNum, e, Option.isSome_some, Option.getD_some, true_and, if_neg h1, if_pos (And.intro h2 h3)]
  have great : ∀ (o : Option Int), nint neg l = o → (∀ v, o = some v → v < -2147483648 ∨ v > 2147483647) → encNum neg l = encBig neg l := by
    rintro o rfl e
    unfold encNum
    cases hn : nint neg l with
    | none => simp
    | some v =>
      have := e v hn
      rw [if_neg (by simp; omega), if_neg (by simp; omega)]
  have hq : IntKind.i64.wrap ((nbits neg l : Int) + 7) = (nbits neg l : Int) + 7 := wrap64_id _ (by omega) (by omega)
  have hk : IntKind.i64.wrap (((nbits neg l : Int) + 7).tdiv 8) = (bigK neg l : Int) := by
    have : ((nbits neg l : Int) + 7).tdiv 8 = (bigK neg l : Int) := by
      rw [Int.tdiv_eq_ediv_of_nonneg (by omega)]
      unfold bigK; omega
    rw [this, wrap64_id _ (by omega) (by unfold bigK; omega)]
  have hkb : bigK neg l ≤ 48 := by unfold bigK; omega
  have great2 : ∀ (o : Option Int), nint neg l = o → (∀ v, o = some v → v < -2147483648 ∨ v > 2147483647) → bce (b ++ encNum neg l) = bce (b ++ bigHead neg l ++ (List.range (bigK neg l)).map (byteAt l)) ∧ (b ++ encNum neg l).length = b.length + 3 + bigK neg l := by
    intro o ho hv
    rw [great o ho hv]
    simp [encBig, bigHead]
    omega
  simp only [go_sem, W_cond, numA, bArg, bOb]
  refine WCallR_does (Int_does neg ln l) (by rfl) (by rfl) ?_
  simp only [go_sem, W_cond, vI]
  refine W_cut (fun st => (∀ v, nint neg l = some v → v < -2147483648 ∨ v > 2147483647) ∧ st.tm 0 = bArg (none) b ∧ st.tm 3 = .ref (.loc 3 0 1) 0 ∧ st.hp (.loc 3 0 1) = some ⟨[.bool neg, .sl ln 1 (lsl l) false], true⟩ ∧ st.hp (.arg 0) = bOb (none) b) ?_ ?_
  · cases hn : nint neg l with
    | none => simp only [go_sem, W_cond, W_block, Option.isSome_none, bArg, bOb]
    | some v =>
      by_cases h0 : v ≥ 0
      · by_cases h1 : v ≤ 255
        · simp only [go_sem, W_cond, W_block, Option.isSome_some, h0, h1, toByte, h97]
          refine WCallR_does (put_does (none) ha b [97, u8i v] false true (by simp) (by simp; omega)) (by rfl) (by rfl) ?_
          simp only [go_sem, W_cond, W_block, small v hn h0 h1, List.length_append]
        · by_cases h2 : v ≤ 2147483647
          · have h3 : v ≥ -2147483648 := by omega
            have he : b ++ encNum neg l = (b ++ [98]) ++ be4 v := by rw [mid v hn (by omega) h3 h2]; simp
            simp only [go_sem, W_cond, W_block, Option.isSome_some, h0, h1, h2, h3, toByte, h98, he, be4_length, List.length_append]
            refine WCallR_does (put_does (none) ha b [98] false true (by simp) (by simp; omega)) (by rfl) (by rfl) ?_
            simp only [go_sem, W_cond, W_block]
            have hc := word_does none trivial (b ++ [98]) v (by simp; omega)
            try simp only [go_sem, List.length_append, bArg, bOb] at hc
            refine WCallR_does hc (by rfl) (by rfl) ?_
            clear hc
            simp only [go_sem, W_cond, W_block]
          · have h3 : v ≥ -2147483648 := by omega
            simp only [go_sem, W_cond, W_block, Option.isSome_some, h0, h1, h2, h3, bArg, bOb]
            intro v' e; cases e; omega
      · by_cases h3 : v ≥ -2147483648
        · have he : b ++ encNum neg l = (b ++ [98]) ++ be4 v := by rw [mid v hn (by omega) h3 (by omega)]; simp
          have h2 : v ≤ 2147483647 := by omega
          simp only [go_sem, W_cond, W_block, Option.isSome_some, h0, h2, h3, toByte, h98, he, be4_length, List.length_append]
          refine WCallR_does (put_does (none) ha b [98] false true (by simp) (by simp; omega)) (by rfl) (by rfl) ?_
          simp only [go_sem, W_cond, W_block]
          have hc := word_does none trivial (b ++ [98]) v (by simp; omega)
          try simp only [go_sem, List.length_append, bArg, bOb] at hc
          refine WCallR_does hc (by rfl) (by rfl) ?_
          clear hc
          simp only [go_sem, W_cond, W_block]
        · simp only [go_sem, W_cond, W_block, Option.isSome_some, h0, h3, bArg, bOb]
          intro v' e; cases e; omega
  · rintro tm hp clk ⟨hv, g1, g2, g3, g4⟩
    replace g1 : tm 0 = _ := g1
    replace g2 : tm 3 = _ := g2
    replace g3 : hp (.loc 3 0 1) = _ := g3
    replace g4 : hp (.arg 0) = _ := g4
    obtain ⟨he1, he2⟩ := great2 _ rfl hv
    rw [he1, he2]
    simp only [go_sem, W_block, g1, g2, g3, g4, numA, bArg, bOb]
    refine WCallR_does (Bits_does neg ln l) (by rfl) (by rfl) ?_
    simp only [go_sem, W_block, g1, g2, g3, g4, hq, hk, bArg, bOb]
    refine W_cut (fun st => st.tm 0 = bArg (none) b ∧ st.tm 3 = .ref (.loc 3 0 1) 0 ∧ st.tm 7 = .int .i64 (bigK neg l) ∧ st.tm 8 = ofByte (if neg = true then 1 else 0) ∧ st.hp (.loc 3 0 1) = some ⟨[.bool neg, .sl ln 1 (lsl l) false], true⟩ ∧ st.hp (.arg 0) = bOb (none) b) ?_ ?_
    · cases neg <;> simp only [go_sem, W_cond, W_block, g1, g2, g3, g4, bArg, bOb, h0b, h1b]
    · clear g1 g2 g3 g4 tm hp clk
      rintro tm hp clk ⟨g1, g2, g5, g6, g3, g4⟩
      replace g1 : tm 0 = _ := g1
      replace g2 : tm 3 = _ := g2
      replace g5 : tm 7 = _ := g5
      replace g6 : tm 8 = _ := g6
      replace g3 : hp (.loc 3 0 1) = _ := g3
      replace g4 : hp (.arg 0) = _ := g4
      simp only [go_sem, W_cond, W_block, g1, g2, g3, g4, g5, g6, bArg, bOb, toByte, h110]
      have hc := put_does (none) ha b (bigHead neg l) false true (by simp [bigHead]) (by simp [bigHead]; omega)
      try simp only [go_sem, List.length_append, bArg, bOb, bigHead, bsl_cons, bsl_nil] at hc
      refine WCallR_does hc (by rfl) (by rfl) ?_
      clear hc
      simp only [go_sem, W_cond, W_block, g2, g3, g4, g5]
      refine W_loop (fun (i : Nat) st => i ≤ bigK neg l ∧ st.tm 3 = .ref (.loc 3 0 1) 0 ∧ st.hp (.loc 3 0 1) = some ⟨[.bool neg, .sl ln 1 (lsl l) false], true⟩ ∧ st.hp (.arg 0) = none ∧ st.tm 57 = .int .i64 (bigK neg l) ∧ st.tm 58 = .int .i64 i ∧
        ∃ d j c, ¬ 3 = d ∧ st.tm 0 = .arr (.loc d j c) 0 (b.length + 3 + i) 1 ∧ st.hp (.loc d j c) = some ⟨bce (b ++ bigHead neg l ++ (List.range i).map (byteAt l)), true⟩) (fun i => bigK neg l - i) 0 ?_ ?_
      · simp only [go_sem, W_cond, W_block, g2, g3, g4, g5, bOb]
        exact ⟨56, 5, clk, by decide, rfl, by simp [bigHead]⟩
      · clear g1 g2 g3 g4 g5 g6 tm hp clk
        rintro i tm hp clk ⟨hi, g1, g2, g3, g4, g5, d, j, c, hd, g6, g7⟩
        replace g1 : tm 3 = _ := g1
        replace g2 : hp (.loc 3 0 1) = _ := g2
        replace g3 : hp (.arg 0) = _ := g3
        replace g4 : tm 57 = _ := g4
        replace g5 : tm 58 = _ := g5
        replace g6 : tm 0 = _ := g6
        replace g7 : hp (.loc d j c) = _ := g7
        by_cases hlt : i < bigK neg l
        · have hlt' : (i : Int) < (bigK neg l : Int) := by omega
          have hix := big_bytes neg l i hlt
          have hg : l[i / 4]? = some l[i / 4] := List.getElem?_eq_getElem hix
          have e4 : (i : Int).tdiv 4 = ((i / 4 : Nat) : Int) := by rw [Int.tdiv_eq_ediv_of_nonneg (by omega)]; omega
          have e5 : IntKind.i64.wrap ((i / 4 : Nat) : Int) = ((i / 4 : Nat) : Int) := wrap64_id _ (by omega) (by omega)
          have e6 : ¬ ((i / 4 : Nat) : Int) < 0 := by omega
          have e7 : (i : Int).tmod 4 = ((i % 4 : Nat) : Int) := by rw [Int.tmod_eq_emod_of_nonneg (by omega)]; omega
          have e8 : IntKind.i64.wrap (8 * ((i % 4 : Nat) : Int)) = ((8 * (i % 4) : Nat) : Int) := by rw [wrap64_id _ (by omega) (by omega)]; omega
          have e9 : ¬ ((8 * (i % 4) : Nat) : Int) < 0 := by omega
          have e10 : min (8 * (i % 4)) 32 = 8 * (i % 4) := by omega
          have e11 : IntKind.i64.wrap ((i : Int) + 1) = ((i + 1 : Nat) : Int) := by rw [wrap64_id _ (by omega) (by omega)]; omega
          have e12 : u8i ((l[i / 4].toNat : Int).fdiv (2 ^ (8 * (i % 4)))) = byteAt l i := by unfold byteAt; rw [List.getD_eq_getElem?_getD, hg]; rfl
          simp only [go_sem, W_cond, W_block, g1, g2, g3, g4, g5, g6, g7, hlt', e4, e5, e6, lsl_get hg, e7, e8, e9, e10, toByte, e12]
          have hB : (b ++ bigHead neg l ++ (List.range i).map (byteAt l)).length = b.length + 3 + i := by simp [bigHead]; omega
          have hc := put_does none trivial (b ++ bigHead neg l ++ (List.range i).map (byteAt l)) [byteAt l i] false true (by simp) (by rw [hB]; simp; omega)
          simp only [bArg, bOb, hB, bsl_cons, bsl_nil, List.length_cons, List.length_nil, Nat.zero_add] at hc
          refine WCallR_does hc (by rfl) (by rfl) ?_
          clear hc
          simp only [go_sem, W_cond, W_block, g1, g2, g3, g4, g5, hd, e11]
          exact ⟨i + 1, ⟨by omega, rfl, 74, 13, clk + 1 + 1, by decide, rfl, by simp [List.range_succ]⟩, by omega⟩
        · have hlt' : ¬ (i : Int) < (bigK neg l : Int) := by omega
          have hi : i = bigK neg l := by omega
          subst hi
          simp only [go_sem, W_cond, W_block, g1, g2, g3, g4, g5, g6, g7, hlt', bOb]
theorem number_sl (m : Bool) (sz : Nat) (ha : bOk (some (m, sz))) (b : List UInt8) (neg ln : Bool) (l : List UInt32) (h : (b.length : Nat) ≤ 100000000000) :
    FDoes Try.prog 46 [bArg (some (m, sz)) b, numA neg ln l] [bOb (some (m, sz)) b, none] [.ex 0 (b ++ encNum neg l).length 1] [none, none] (some ⟨bce (b ++ encNum neg l), true⟩) := by
  refine FDoes.of (E := env) ttok mixed Try.func46 (by kernel_rfl) rfl (by kernel_rfl) (rl := [.tmp 4]) rfl (Nat.le_of_ble_eq_true rfl) true ?_
  have hbk := nbits_le neg l
  have h97 : AV.int .u8 97 = ofByte 97 := rfl
  have h98 : AV.int .u8 98 = ofByte 98 := rfl
  have h110 : AV.int .u8 110 = ofByte 110 := rfl
  have h1b : AV.int .u8 1 = ofByte 1 := rfl
  have h0b : AV.int .u8 0 = ofByte 0 := rfl
  have small : ∀ v : Int, (nint neg l) = some v → 0 ≤ v → v ≤ 255 → encNum neg l = [97, u8i v] := by
    intro v e h1 h2
    simp [encNum, e, h1, h2]
  have mid : ∀ v : Int, (nint neg l) = some v → ¬ (0 ≤ v ∧ v ≤ 255) → -2147483648 ≤ v → v ≤ 2147483647 → encNum neg l = 98 :: be4 v := by
    intro v e h1 h2 h3
    simp only [encNum, e, Option.isSome_some, Option.getD_some, true_and, if_neg h1, if_pos (And.intro h2 h3)]
  have great : ∀ (o : Option Int), nint neg l = o → (∀ v, o = some v → v < -2147483648 ∨ v > 2147483647) → encNum neg l = encBig neg l := by
    rintro o rfl e
    unfold encNum
    cases hn : nint neg l with
    | none => simp
    | some v =>
      have := e v hn
      rw [if_neg (by simp; omega), if_neg (by simp; omega)]
  have hq : IntKind.i64.wrap ((nbits neg l : Int) + 7) = (nbits neg l : Int) + 7 := wrap64_id _ (by omega) (by omega)
  have hk : IntKind.i64.wrap (((nbits neg l : Int) + 7).tdiv 8) = (bigK neg l : Int) := by
    have : ((nbits neg l : Int) + 7).tdiv 8 = (bigK neg l : Int) := by
      rw [Int.tdiv_eq_ediv_of_nonneg (by omega)]
      unfold bigK; omega
    rw [this, wrap64_id _ (by omega) (by unfold bigK; omega)]
  have hkb : bigK neg l ≤ 48 := by unfold bigK; omega
  have great2 : ∀ (o : Option Int), nint neg l = o → (∀ v, o = some v → v < -2147483648 ∨ v > 2147483647) → bce (b ++ encNum neg l) = bce (b ++ bigHead neg l ++ (List.range (bigK neg l)).map (byteAt l)) ∧ (b ++ encNum neg l).length = b.length + 3 + bigK neg l := by
    intro o ho hv
    rw [great o ho hv]
    simp [encBig, bigHead]
    omega
  simp only [go_sem, W_cond, numA, bArg, bOb]
  refine WCallR_does (Int_does neg ln l) (by rfl) (by rfl) ?_
  simp only [go_sem, W_cond, vI]
  refine W_cut (fun st => (∀ v, nint neg l = some v → v < -2147483648 ∨ v > 2147483647) ∧ st.tm 0 = bArg (some (m, sz)) b ∧ st.tm 3 = .ref (.loc 3 0 1) 0 ∧ st.hp (.loc 3 0 1) = some ⟨[.bool neg, .sl ln 1 (lsl l) false], true⟩ ∧ st.hp (.arg 0) = bOb (some (m, sz)) b) ?_ ?_
  · cases hn : nint neg l with
    | none => simp only [go_sem, W_cond, W_block, Option.isSome_none, bArg, bOb]
    | some v =>
      by_cases h0 : v ≥ 0
      · by_cases h1 : v ≤ 255
        · simp only [go_sem, W_cond, W_block, Option.isSome_some, h0, h1, toByte, h97]
          refine WCallR_does (put_does (some (m, sz)) ha b [97, u8i v] false true (by simp) (by simp; omega)) (by rfl) (by rfl) ?_
          simp only [go_sem, W_cond, W_block, small v hn h0 h1, List.length_append]
        · by_cases h2 : v ≤ 2147483647
          · have h3 : v ≥ -2147483648 := by omega
            have he : b ++ encNum neg l = (b ++ [98]) ++ be4 v := by rw [mid v hn (by omega) h3 h2]; simp
            simp only [go_sem, W_cond, W_block, Option.isSome_some, h0, h1, h2, h3, toByte, h98, he, be4_length, List.length_append]
            refine WCallR_does (put_does (some (m, sz)) ha b [98] false true (by simp) (by simp; omega)) (by rfl) (by rfl) ?_
            simp only [go_sem, W_cond, W_block]
            have hc := word_does none trivial (b ++ [98]) v (by simp; omega)
            try simp only [go_sem, List.length_append, bArg, bOb] at hc
            refine WCallR_does hc (by rfl) (by rfl) ?_
            clear hc
            simp only [go_sem, W_cond, W_block]
          · have h3 : v ≥ -2147483648 := by omega
            simp only [go_sem, W_cond, W_block, Option.isSome_some, h0, h1, h2, h3, bArg, bOb]
            intro v' e; cases e; omega
      · by_cases h3 : v ≥ -2147483648
        · have he : b ++ encNum neg l = (b ++ [98]) ++ be4 v := by rw [mid v hn (by omega) h3 (by omega)]; simp
          have h2 : v ≤ 2147483647 := by omega
          simp only [go_sem, W_cond, W_block, Option.isSome_some, h0, h2, h3, toByte, h98, he, be4_length, List.length_append]
          refine WCallR_does (put_does (some (m, sz)) ha b [98] false true (by simp) (by simp; omega)) (by rfl) (by rfl) ?_
          simp only [go_sem, W_cond, W_block]
          have hc := word_does none trivial (b ++ [98]) v (by simp; omega)
          try simp only [go_sem, List.length_append, bArg, bOb] at hc
          refine WCallR_does hc (by rfl) (by rfl) ?_
          clear hc
          simp only [go_sem, W_cond, W_block]
        · simp only [go_sem, W_cond, W_block, Option.isSome_some, h0, h3, bArg, bOb]
          intro v' e; cases e; omega
  · rintro tm hp clk ⟨hv, g1, g2, g3, g4⟩
    replace g1 : tm 0 = _ := g1
    replace g2 : tm 3 = _ := g2
    replace g3 : hp (.loc 3 0 1) = _ := g3
    replace g4 : hp (.arg 0) = _ := g4
    obtain ⟨he1, he2⟩ := great2 _ rfl hv
    rw [he1, he2]
    simp only [go_sem, W_block, g1, g2, g3, g4, numA, bArg, bOb]
    refine WCallR_does (Bits_does neg ln l) (by rfl) (by rfl) ?_
    simp only [go_sem, W_block, g1, g2, g3, g4, hq, hk, bArg, bOb]
    refine W_cut (fun st => st.tm 0 = bArg (some (m, sz)) b ∧ st.tm 3 = .ref (.loc 3 0 1) 0 ∧ st.tm 7 = .int .i64 (bigK neg l) ∧ st.tm 8 = ofByte (if neg = true then 1 else 0) ∧ st.hp (.loc 3 0 1) = some ⟨[.bool neg, .sl ln 1 (lsl l) false], true⟩ ∧ st.hp (.arg 0) = bOb (some (m, sz)) b) ?_ ?_
    · cases neg <;> simp only [go_sem, W_cond, W_block, g1, g2, g3, g4, bArg, bOb, h0b, h1b]
    · clear g1 g2 g3 g4 tm hp clk
      rintro tm hp clk ⟨g1, g2, g5, g6, g3, g4⟩
      replace g1 : tm 0 = _ := g1
      replace g2 : tm 3 = _ := g2
      replace g5 : tm 7 = _ := g5
      replace g6 : tm 8 = _ := g6
      replace g3 : hp (.loc 3 0 1) = _ := g3
      replace g4 : hp (.arg 0) = _ := g4
      simp only [go_sem, W_cond, W_block, g1, g2, g3, g4, g5, g6, bArg, bOb, toByte, h110]
      have hc := put_does (some (m, sz)) ha b (bigHead neg l) false true (by simp [bigHead]) (by simp [bigHead]; omega)
      try simp only [go_sem, List.length_append, bArg, bOb, bigHead, bsl_cons, bsl_nil] at hc
      refine WCallR_does hc (by rfl) (by rfl) ?_
      clear hc
      simp only [go_sem, W_cond, W_block, g2, g3, g4, g5]
      refine W_loop (fun (i : Nat) st => i ≤ bigK neg l ∧ st.tm 3 = .ref (.loc 3 0 1) 0 ∧ st.hp (.loc 3 0 1) = some ⟨[.bool neg, .sl ln 1 (lsl l) false], true⟩ ∧ st.hp (.arg 0) = none ∧ st.tm 57 = .int .i64 (bigK neg l) ∧ st.tm 58 = .int .i64 i ∧
        ∃ d j c, ¬ 3 = d ∧ st.tm 0 = .arr (.loc d j c) 0 (b.length + 3 + i) 1 ∧ st.hp (.loc d j c) = some ⟨bce (b ++ bigHead neg l ++ (List.range i).map (byteAt l)), true⟩) (fun i => bigK neg l - i) 0 ?_ ?_
      · simp only [go_sem, W_cond, W_block, g2, g3, g4, g5, bOb]
        exact ⟨56, 5, clk, by decide, rfl, by simp [bigHead]⟩
      · clear g1 g2 g3 g4 g5 g6 tm hp clk
        rintro i tm hp clk ⟨hi, g1, g2, g3, g4, g5, d, j, c, hd, g6, g7⟩
        replace g1 : tm 3 = _ := g1
        replace g2 : hp (.loc 3 0 1) = _ := g2
        replace g3 : hp (.arg 0) = _ := g3
        replace g4 : tm 57 = _ := g4
        replace g5 : tm 58 = _ := g5
        replace g6 : tm 0 = _ := g6
        replace g7 : hp (.loc d j c) = _ := g7
        by_cases hlt : i < bigK neg l
        · have hlt' : (i : Int) < (bigK neg l : Int) := by omega
          have hix := big_bytes neg l i hlt
          have hg : l[i / 4]? = some l[i / 4] := List.getElem?_eq_getElem hix
          have e4 : (i : Int).tdiv 4 = ((i / 4 : Nat) : Int) := by rw [Int.tdiv_eq_ediv_of_nonneg (by omega)]; omega
          have e5 : IntKind.i64.wrap ((i / 4 : Nat) : Int) = ((i / 4 : Nat) : Int) := wrap64_id _ (by omega) (by omega)
          have e6 : ¬ ((i / 4 : Nat) : Int) < 0 := by omega
          have e7 : (i : Int).tmod 4 = ((i % 4 : Nat) : Int) := by rw [Int.tmod_eq_emod_of_nonneg (by omega)]; omega
          have e8 : IntKind.i64.wrap (8 * ((i % 4 : Nat) : Int)) = ((8 * (i % 4) : Nat) : Int) := by rw [wrap64_id _ (by omega) (by omega)]; omega
          have e9 : ¬ ((8 * (i % 4) : Nat) : Int) < 0 := by omega
          have e10 : min (8 * (i % 4)) 32 = 8 * (i % 4) := by omega
          have e11 : IntKind.i64.wrap ((i : Int) + 1) = ((i + 1 : Nat) : Int) := by rw [wrap64_id _ (by omega) (by omega)]; omega
          have e12 : u8i ((l[i / 4].toNat : Int).fdiv (2 ^ (8 * (i % 4)))) = byteAt l i := by unfold byteAt; rw [List.getD_eq_getElem?_getD, hg]; rfl
          simp only [go_sem, W_cond, W_block, g1, g2, g3, g4, g5, g6, g7, hlt', e4, e5, e6, lsl_get hg, e7, e8, e9, e10, toByte, e12]
          have hB : (b ++ bigHead neg l ++ (List.range i).map (byteAt l)).length = b.length + 3 + i := by simp [bigHead]; omega
          have hc := put_does none trivial (b ++ bigHead neg l ++ (List.range i).map (byteAt l)) [byteAt l i] false true (by simp) (by rw [hB]; simp; omega)
          simp only [bArg, bOb, hB, bsl_cons, bsl_nil, List.length_cons, List.length_nil, Nat.zero_add] at hc
          refine WCallR_does hc (by rfl) (by rfl) ?_
          clear hc
          simp only [go_sem, W_cond, W_block, g1, g2, g3, g4, g5, hd, e11]
          exact ⟨i + 1, ⟨by omega, rfl, 74, 13, clk + 1 + 1, by decide, rfl, by simp [List.range_succ]⟩, by omega⟩
        · have hlt' : ¬ (i : Int) < (bigK neg l : Int) := by omega
          have hi : i = bigK neg l := by omega
          subst hi
          simp only [go_sem, W_cond, W_block, g1, g2, g3, g4, g5, g6, g7, hlt', bOb]

theorem number_does (a : Option (Bool × Nat)) (ha : bOk a) (b : List UInt8) (neg ln : Bool) (l : List UInt32) (h : (b.length : Nat) ≤ 100000000000) :
    FDoes Try.prog 46 [bArg a b, numA neg ln l] [bOb a b, none] [.ex 0 (b ++ encNum neg l).length 1] [none, none] (some ⟨bce (b ++ encNum neg l), true⟩) := by
  cases a with
  | none => exact number_arr false 0 ha b neg ln l h
  | some p => obtain ⟨m, sz⟩ := p; exact number_sl m sz ha b neg ln l h
end Go.Proofs.Ythbbollhojdjdaa
