/- WALKS, 26-28. -/
import Derived.Test.YthbbollhojdjdaaXA
import Derived.Test.YthbbollhojdjdaaWM
import Derived.Test.YthbbollhojdjdaaQB
/- WALKS, 26: num.Of by value; shift up. Conditions: sizes. -/
namespace Go.Proofs.Ythbbollhojdjdaa
open Go.Ab
set_option maxRecDepth 100000
set_option linter.unusedSimpArgs false
set_option linter.unusedVariables false

theorem limbs2_val (n : Nat) (h : n < 18446744073709551616) : val (limbs2 n) = n := by
  simp only [limbs2, val]
  rw [UInt32.toNat_ofNat', UInt32.toNat_ofNat']
  omega
theorem ofL_mz (v : Int) (h1 : -9223372036854775808 ≤ v) (h2 : v ≤ 9223372036854775807) : ofL v = mzL v := by
  rw [ofL, madeL_val, limbs2_val _ (by omega), mzL, mzL]
  rfl
theorem mz_of (v : Int) (h1 : -9223372036854775808 ≤ v) (h2 : v ≤ 9223372036854775807) : ofN v = mzN v := by
  rw [ofN, madeN, mzN, ← ofL_mz v h1 h2]
  rfl
/-- Of: by value. -/
theorem Of_mz (v : Int) (h1 : -9223372036854775808 ≤ v) (h2 : v ≤ 9223372036854775807) : FDoes Try.prog 21 [.int .i64 v] [none] [.v (mzA v)] [none] none := by
  have := Of_does v h1 h2
  rw [ofL_mz v h1 h2, mz_of v h1 h2] at this
  exact this

theorem nint_mz (v : Int) (h1 : -9223372036854775808 ≤ v) (h2 : v ≤ 9223372036854775807) : nint (mzN v) (mzL v) = some v := by
  have hlen : (natL v.natAbs).length ≤ 2 := natL_len _ 2 (by omega)
  have hV : mzV v = true := by unfold mzV; simp; omega
  have hi := ival_mz hV
  have hL : mzL v = natL v.natAbs := by rw [mzL, if_pos (by omega)]
  have hv : val (mzL v) = v.natAbs := by rw [hL, natL_val]
  unfold nint
  rw [if_pos (mz_chk v), if_neg (by rw [hL]; omega)]
  unfold ival at hi
  cases hn : mzN v with
  | true =>
    rw [hn, if_pos rfl] at hi
    rw [if_pos rfl, if_pos (by rw [hv]; omega), hi]
  | false =>
    rw [hn, if_neg (by decide)] at hi
    rw [if_neg (by decide), if_pos (by rw [hv]; omega), hi]

theorem mzN_nat (k : Nat) : mzN (k : Int) = false := by
  unfold mzN
  have : decide ((k : Int) < 0) = false := by simp
  rw [this]
  rfl

set_option exponentiation.threshold 1000 in
theorem shift_does (la : Bool) (a : List UInt32) (k : Nat) (hk : k ≤ 384) (ha : a.length ≤ 12) (hne : a ≠ []) :
    FDoes Try.prog 42 [numA false la a, mzA k, .bool false] [none, none, none] [.v (mzA ((val a * 2 ^ k : Nat) : Int)), .v (.bool (mzV ((val a * 2 ^ k : Nat) : Int)))] [none, none, none] none := by
  have hI := Int_does (mzN (k : Int)) (emp (mzL (k : Int))) (mzL (k : Int))
  rw [nint_mz k (by omega) (by omega)] at hI
  have hN := mzN_nat k
  rw [hN] at hI
  have hA := Nat.lt_of_lt_of_le (val_lt a) (Nat.pow_le_pow_right (n := 4294967296) (by omega) ha)
  have hB : (2 : Nat) ^ k ≤ 4294967296 ^ 12 := by
    rw [show (4294967296 : Nat) = 2 ^ 32 from rfl, ← Nat.pow_mul]
    exact Nat.pow_le_pow_right (by omega) (by omega)
  have hbig : val a * 2 ^ k < 4294967296 ^ 24 := by
    have e : (4294967296 : Nat) ^ 24 = 4294967296 ^ 12 * 4294967296 ^ 12 := by rw [← Nat.pow_add]
    rw [e]
    exact Nat.mul_lt_mul_of_lt_of_le hA hB (Nat.pow_pos (by omega))
  have hm := made_nat false (val a * 2 ^ k) (by have := natL_len _ 24 hbig; omega)
  rw [if_neg (by decide)] at hm
  have hl : ¬ (a.length : Int) = 0 := by
    have : 0 < a.length := List.length_pos_iff.2 hne
    omega
  have h1 : ¬ (k : Int) > 10000 := by omega
  have h2 : ¬ (k : Int) < -10000 := by omega
  have hw : IntKind.i64.wrap (0 - (k : Int)) = -(k : Int) := by rw [wrap64_id _ (by omega) (by omega)]; omega
  have hmx : (if -(k : Int) > (k : Int) then -(k : Int) else (k : Int)) = (k : Int) := by rw [if_neg (by omega)]
  have h3 : ¬ (k : Int) > 384 := by omega
  refine FDoes.of (E := env) ttok mixed Try.func42 (by kernel_rfl) rfl (by kernel_rfl) (rl := [.cell 6 25, .tmp 7]) rfl (Nat.le_of_ble_eq_true rfl) false ?_
  simp only [go_sem, W_cond, W_block, numA, mzA, hN]
  have hc := hI
  try simp only [go_sem, List.length_append, numA, vI, Option.isSome_some, Option.getD_some] at hc
  refine WCallR_does hc (by rfl) (by rfl) ?_
  clear hc
  simp only [go_sem, W_cond, W_block, hl, h1, h2, foldInt, hw, hmx, h3]
  have hc := Shl_does la false a k (by omega) (by omega)
  try simp only [go_sem, List.length_append] at hc
  refine WCallDR_does hc (by rfl) (by rfl) ?_
  clear hc
  simp only [go_sem, lstA]
  have hc := hm
  try simp only [go_sem, List.length_append, lstA, mzA, numA] at hc
  refine WCallDR_does hc (by rfl) (by rfl) ?_
  clear hc
  simp only [go_sem, W_cond, W_block, mzA, numA]
  kernel_rfl
end Go.Proofs.Ythbbollhojdjdaa
/- WALKS, 27: Op: shift and less; Cmp of a number with itself. Conditions: sizes. -/
namespace Go.Proofs.Ythbbollhojdjdaa
open Go.Ab
set_option maxRecDepth 100000
set_option linter.unusedSimpArgs false
set_option linter.unusedVariables false

theorem Op9_does (a k : Nat) (hk : k ≤ 384) (hne : ¬ mzL (a : Int) = []) :
    ∃ z w, FDoes Try.prog 20 [.int .i64 9, mzA a, mzA k] [none, none, none] [.v (mzA z), .v (.bool w)] [none, none, none] none := by
  refine ⟨((val (mzL (a : Int)) * 2 ^ k : Nat) : Int), mzV ((val (mzL (a : Int)) * 2 ^ k : Nat) : Int), ?_⟩
  have hs := shift_does (emp (mzL (a : Int))) (mzL (a : Int)) k hk (nchk_len (mz_chk (a : Int))) hne
  have ha := of_ok (ln := emp (mzL (a : Int))) (mz_chk (a : Int))
  have hb := of_ok (ln := emp (mzL (k : Int))) (mz_chk (k : Int))
  have hN := mzN_nat k
  have hM := mzN_nat a
  rw [hN] at hb
  rw [hM] at ha
  generalize ((val (mzL (a : Int)) * 2 ^ k : Nat) : Int) = r at *
  refine FDoes.of (E := env) ttok mixed Try.func20 (by kernel_rfl) rfl (by kernel_rfl) (rl := [.cell 6 25, .tmp 7]) rfl (Nat.le_of_ble_eq_true rfl) false ?_
  simp only [go_sem, W_cond, W_block, numA, mzA, hN, hM]
  have hc := ha
  try simp only [go_sem, List.length_append, numA] at hc
  refine WCallDR_does hc (by rfl) (by rfl) ?_
  clear hc
  simp only [go_sem]
  have hc := hb
  try simp only [go_sem, List.length_append, numA] at hc
  refine WCallDR_does hc (by rfl) (by rfl) ?_
  clear hc
  simp only [go_sem, W_cond, W_block]
  refine ⟨by kernel_rfl, ?_⟩
  have hc := hs
  try simp only [go_sem, List.length_append, mzA, numA, hN] at hc
  refine WCallR_does hc (by rfl) (by rfl) ?_
  clear hc
  simp only [go_sem, W_cond, W_block, mzA, numA]

theorem Op2_does (na la nb lb : Bool) (a b : List UInt32) (ha : nchk na a = true) (hb : nchk nb b = true) :
    ∃ z w, FDoes Try.prog 20 [.int .i64 2, numA na la a, numA nb lb b] [none, none, none] [.v (mzA z), .v (.bool w)] [none, none, none] none := by
  refine ⟨ival na a + ival (mzN (-(ival nb b))) (mzL (-(ival nb b))), mzV (ival na a + ival (mzN (-(ival nb b))) (mzL (-(ival nb b)))), ?_⟩
  have h1 := of_ok (ln := la) ha
  have h2 := of_ok (ln := lb) hb
  have h3 := Neg_does nb lb b hb
  have h4 := add_does na la (mzN (-(ival nb b))) (emp (mzL (-(ival nb b)))) a (mzL (-(ival nb b))) (nchk_len ha) (nchk_len (mz_chk _))
  generalize ival na a + ival (mzN (-(ival nb b))) (mzL (-(ival nb b))) = r at *
  generalize -(ival nb b) = q at *
  refine FDoes.of (E := env) ttok mixed Try.func20 (by kernel_rfl) rfl (by kernel_rfl) (rl := [.cell 6 25, .tmp 7]) rfl (Nat.le_of_ble_eq_true rfl) false ?_
  simp only [go_sem, W_cond, W_block, numA]
  have hc := h1
  try simp only [go_sem, List.length_append, numA] at hc
  refine WCallDR_does hc (by rfl) (by rfl) ?_
  clear hc
  simp only [go_sem]
  have hc := h2
  try simp only [go_sem, List.length_append, numA] at hc
  refine WCallDR_does hc (by rfl) (by rfl) ?_
  clear hc
  simp only [go_sem, W_cond, W_block]
  refine ⟨by kernel_rfl, ?_⟩
  have hc := h3
  try simp only [go_sem, List.length_append, mzA, numA] at hc
  refine WCallR_does hc (by rfl) (by rfl) ?_
  clear hc
  simp only [go_sem, W_cond, W_block]
  have hc := h4
  try simp only [go_sem, List.length_append, mzA, numA] at hc
  refine WCallR_does hc (by rfl) (by rfl) ?_
  clear hc
  simp only [go_sem, W_cond, W_block, mzA, numA]

theorem Cmp_same (neg la lb : Bool) (l : List UInt32) (h : nchk neg l = true) :
    FDoes Try.prog 25 [numA neg la l, numA neg lb l] [none, none] [.v (.int .i64 0)] [none, none] none := by
  have h1 := of_ok (ln := la) h
  have h2 := of_ok (ln := lb) h
  have hl := nchk_len h
  have hc : cmpN (val l) (val l) = 0 := by simp [cmpN]
  have h3 := Cmp_does la false lb false l l (by omega) (by omega)
  have h4 := Cmp_does lb false la false l l (by omega) (by omega)
  rw [hc] at h3 h4
  cases neg with
  | true =>
    refine FDoes.of (E := env) ttok mixed Try.func25 (by kernel_rfl) rfl (by kernel_rfl) (rl := [.tmp 4]) rfl (Nat.le_of_ble_eq_true rfl) false ?_
    simp only [go_sem, W_cond, W_block, numA]
    have hc := h1
    try simp only [go_sem, List.length_append, numA] at hc
    refine WCallDR_does hc (by rfl) (by rfl) ?_
    clear hc
    simp only [go_sem]
    have hc := h2
    try simp only [go_sem, List.length_append, numA] at hc
    refine WCallDR_does hc (by rfl) (by rfl) ?_
    clear hc
    simp only [go_sem, W_cond, W_block]
    refine ⟨by kernel_rfl, ?_⟩
    have hc := h4
    try simp only [go_sem, List.length_append] at hc
    refine WCallR_does hc (by rfl) (by rfl) ?_
    clear hc
    simp only [go_sem, W_cond, W_block]
  | false =>
    refine FDoes.of (E := env) ttok mixed Try.func25 (by kernel_rfl) rfl (by kernel_rfl) (rl := [.tmp 4]) rfl (Nat.le_of_ble_eq_true rfl) false ?_
    simp only [go_sem, W_cond, W_block, numA]
    have hc := h1
    try simp only [go_sem, List.length_append, numA] at hc
    refine WCallDR_does hc (by rfl) (by rfl) ?_
    clear hc
    simp only [go_sem]
    have hc := h2
    try simp only [go_sem, List.length_append, numA] at hc
    refine WCallDR_does hc (by rfl) (by rfl) ?_
    clear hc
    simp only [go_sem, W_cond, W_block]
    refine ⟨by kernel_rfl, ?_⟩
    have hc := h3
    try simp only [go_sem, List.length_append] at hc
    refine WCallR_does hc (by rfl) (by rfl) ?_
    clear hc
    simp only [go_sem, W_cond, W_block]
end Go.Proofs.Ythbbollhojdjdaa
/- WALKS, 28: ExtNumbers. Conditions: none. -/
namespace Go.Proofs.Ythbbollhojdjdaa
open Go.Ab
set_option maxRecDepth 100000
set_option linter.unusedSimpArgs false
set_option linter.unusedVariables false

theorem confFree_ord (bs : Array Nat) (acc : List Rec) : confFree bs acc = (acc.all fun r => r.wr.isEmpty || acc.all fun s => decide (r.i = s.i) || ordered bs r.i s.i || (!meets r.wr s.see && !meets r.wr s.wr)) := by
  unfold confFree
  congr 1
  funext r
  congr 2
  funext s
  rw [Bool.or_assoc, Bool.or_assoc, Bool.or_comm (ordered bs r.i s.i)]

def NumC (z : Int) : List AV := [.bool (mzN z), .sl (emp (mzL z)) 1 (lsl (mzL z)) false]
theorem mzA_C (z : Int) : mzA z = .agg (NumC z) := rfl
/-- A cell that holds a number. -/
def NumAt (a : AV) (hp : HP) : Prop := ∃ z c, a = .ref (.loc 8 7 c) 0 ∧ hp (.loc 8 7 c) = some ⟨NumC z, true⟩

theorem ExtNumbers_does (v : Int) (neg low : Bool) : FDoes Try.prog 7 [.int .i64 v, .bool neg, .bool low] [none, none, none] [.v (.bool true)] [none, none, none] none := by
  have hp1 := Place_does v 380 (by omega) (by omega)
  have hk1 := Int.emod_nonneg v (b := 380) (by omega)
  have hk2 := Int.emod_lt_of_pos v (b := 380) (by omega)
  obtain ⟨k, hk⟩ : ∃ k : Nat, v % 380 = (k : Int) := ⟨(v % 380).toNat, by omega⟩
  rw [hk] at hp1 hk2
  have hone := Of_mz 1 (by omega) (by omega)
  have hof := Of_mz k (by omega) (by omega)
  have h1n : ¬ mzL ((1 : Nat) : Int) = [] := by
    have : mzL 1 = natL 1 := by
      unfold mzL
      rw [show (1 : Int).natAbs = 1 from rfl, natL_pos (by omega), show 1 / 4294967296 = 0 from rfl, natL_zero]
      rfl
    rw [show ((1 : Nat) : Int) = 1 from rfl, this, natL_pos (by omega)]
    simp
  obtain ⟨z9, w9, h9⟩ := Op9_does 1 k (by omega) h1n
  rw [show ((1 : Nat) : Int) = 1 from rfl] at h9
  refine FDoes.of (E := env) ttok mixed Try.func7 (by kernel_rfl) rfl (by kernel_rfl) (rl := [.tmp 6]) rfl (Nat.le_of_ble_eq_true rfl) false ?_
  refine W_cutseq (fun st => st.tm 0 = .int .i64 v ∧ st.tm 1 = .bool neg ∧ st.tm 2 = .bool low ∧ st.hp (.arg 0) = none ∧ st.hp (.arg 1) = none ∧ st.hp (.arg 2) = none) ?_ ?_
  · simp only [go_sem, W_cond, W_block]
  rintro tm hp clk ⟨g0, g1, g2, h0, h1, h2⟩
  replace g0 : tm 0 = _ := g0
  replace g1 : tm 1 = _ := g1
  replace g2 : tm 2 = _ := g2
  replace h0 : hp (.arg 0) = _ := h0
  replace h1 : hp (.arg 1) = _ := h1
  replace h2 : hp (.arg 2) = _ := h2
  refine W_cutseq (fun st => st.tm 7 = .int .i64 k ∧ st.tm 1 = .bool neg ∧ st.tm 2 = .bool low ∧ st.hp (.arg 0) = none ∧ st.hp (.arg 1) = none ∧ st.hp (.arg 2) = none) ?_ ?_
  · simp only [go_sem, W_cond, W_block, g0, g1, g2, h0, h1, h2]
    have hc := hp1
    try simp only [go_sem, List.length_append] at hc
    refine WCallR_does hc (by rfl) (by rfl) ?_
    clear hc
    simp only [go_sem, W_cond, W_block, g0, g1, g2, h0, h1, h2]
  clear g0 g1 g2 h0 h1 h2 tm hp clk
  rintro tm hp clk ⟨g7, g1, g2, h0, h1, h2⟩
  replace g7 : tm 7 = _ := g7
  replace g1 : tm 1 = _ := g1
  replace g2 : tm 2 = _ := g2
  replace h0 : hp (.arg 0) = _ := h0
  replace h1 : hp (.arg 1) = _ := h1
  replace h2 : hp (.arg 2) = _ := h2
  refine W_cutseq (fun st => st.tm 1 = .bool neg ∧ st.tm 2 = .bool low ∧ st.hp (.arg 0) = none ∧ st.hp (.arg 1) = none ∧ st.hp (.arg 2) = none ∧ NumAt (st.tm 8) st.hp) ?_ ?_
  · simp only [go_sem, W_cond, W_block, g7, g1, g2, h0, h1, h2]
    have hc := hone
    try simp only [go_sem, List.length_append, mzA, numA] at hc
    refine WCallR_does hc (by rfl) (by rfl) ?_
    clear hc
    simp only [go_sem, W_cond, W_block, g7, g1, g2, h0, h1, h2]
    have hc := hof
    try simp only [go_sem, List.length_append, mzA, numA] at hc
    refine WCallR_does hc (by rfl) (by rfl) ?_
    clear hc
    simp only [go_sem, W_cond, W_block, g7, g1, g2, h0, h1, h2]
    have hc := h9
    try simp only [go_sem, List.length_append, mzA, numA] at hc
    refine WCallR_does hc (by rfl) (by rfl) ?_
    clear hc
    simp only [go_sem, W_cond, W_block, g7, g1, g2, h0, h1, h2]
    refine ⟨z9, _, rfl, ?_⟩
    simp only [go_sem, NumC]
  clear g7 g1 g2 h0 h1 h2 tm hp clk
  rintro tm hp clk ⟨g1, g2, h0, h1, h2, z, c, g8, h8⟩
  replace g8 : tm 8 = _ := g8
  replace g1 : tm 1 = _ := g1
  replace g2 : tm 2 = _ := g2
  replace h0 : hp (.arg 0) = _ := h0
  replace h1 : hp (.arg 1) = _ := h1
  replace h2 : hp (.arg 2) = _ := h2
  replace h8 : hp (.loc 8 7 c) = _ := h8
  refine W_cutseq (fun st => st.tm 1 = .bool neg ∧ st.hp (.arg 0) = none ∧ st.hp (.arg 1) = none ∧ st.hp (.arg 2) = none ∧ NumAt (st.tm 8) st.hp) ?_ ?_
  · cases low with
    | false =>
      simp only [go_sem, W_cond, W_block, g1, g2, g8, h0, h1, h2, h8, NumC]
      exact ⟨z, _, rfl, by simp only [go_sem, NumC, h8]⟩
    | true =>
      obtain ⟨z2, w2, ho⟩ := Op2_does (mzN z) (emp (mzL z)) (mzN 1) (emp (mzL 1)) (mzL z) (mzL 1) (mz_chk z) (mz_chk 1)
      simp only [go_sem, W_cond, W_block, g1, g2, g8, h0, h1, h2, h8, NumC]
      have hc := hone
      try simp only [go_sem, List.length_append, mzA, numA] at hc
      refine WCallDR_does hc (by rfl) (by rfl) ?_
      clear hc
      simp only [go_sem, h0, h1, h2, h8]
      have hc := ho
      try simp only [go_sem, List.length_append, mzA, numA] at hc
      refine WCallDR_does hc (by rfl) (by rfl) ?_
      clear hc
      simp only [go_sem, W_cond, W_block, g1, g2, g8, h0, h1, h2, h8, NumC]
      refine ⟨by rw [confFree_ord]; kernel_rfl, z2, _, rfl, ?_⟩
      simp only [go_sem, NumC]
  clear g1 g2 g8 h0 h1 h2 h8 tm hp clk
  rintro tm hp clk ⟨g1, h0, h1, h2, z3, c3, g8, h8⟩
  replace g8 : tm 8 = _ := g8
  replace g1 : tm 1 = _ := g1
  replace h0 : hp (.arg 0) = _ := h0
  replace h1 : hp (.arg 1) = _ := h1
  replace h2 : hp (.arg 2) = _ := h2
  replace h8 : hp (.loc 8 7 c3) = _ := h8
  refine W_cutseq (fun st => st.hp (.arg 0) = none ∧ st.hp (.arg 1) = none ∧ st.hp (.arg 2) = none ∧ NumAt (st.tm 8) st.hp) ?_ ?_
  · cases neg with
    | false =>
      simp only [go_sem, W_cond, W_block, g1, g8, h0, h1, h2, h8, NumC]
      exact ⟨z3, _, rfl, by simp only [go_sem, NumC, h8]⟩
    | true =>
      have hn := Neg_does (mzN z3) (emp (mzL z3)) (mzL z3) (mz_chk z3)
      simp only [go_sem, W_cond, W_block, g1, g8, h0, h1, h2, h8, NumC]
      have hc := hn
      try simp only [go_sem, List.length_append, mzA, numA] at hc
      refine WCallR_does hc (by rfl) (by rfl) ?_
      clear hc
      simp only [go_sem, W_cond, W_block, g1, g8, h0, h1, h2, h8, NumC]
      refine ⟨-(ival (mzN z3) (mzL z3)), _, rfl, ?_⟩
      simp only [go_sem, NumC]
  clear g1 g8 h0 h1 h2 h8 tm hp clk c3 c z z9 w9 h9
  rintro tm hp clk ⟨h0, h1, h2, z, c, g8, h8⟩
  replace g8 : tm 8 = _ := g8
  replace h0 : hp (.arg 0) = _ := h0
  replace h1 : hp (.arg 1) = _ := h1
  replace h2 : hp (.arg 2) = _ := h2
  replace h8 : hp (.loc 8 7 c) = _ := h8
  obtain ⟨N, hN⟩ : ∃ N, N = mzN z := ⟨_, rfl⟩
  obtain ⟨l, hl⟩ : ∃ l, l = mzL z := ⟨_, rfl⟩
  have hck : nchk N l = true := by rw [hN, hl]; exact mz_chk z
  have hC : NumC z = [.bool N, .sl (emp l) 1 (lsl l) false] := by rw [hN, hl]; rfl
  rw [hC] at h8
  have hput := Put_does true 0 true [] (.inl rfl) (numNT N l) (by simp) (numNT_chk hck)
  rw [show enc (numNT N l) = encNum N l from enc_int rfl, List.nil_append] at hput
  have htA : tA (numNT N l) = .agg [.int .i64 1, .bool N, .sl (emp l) 1 (lsl l) false, .str [], .int .i64 0, .sl true 6 [] false] := by rw [tA_eq]; rfl
  have hbits := Bits_does N (emp l) l
  have hint := Int_does N (emp l) l
  have hlen := encNum_len N l
  have hlen2 : (encNum N l).length = if (nint N l).isSome = true ∧ 0 ≤ (nint N l).getD 0 ∧ (nint N l).getD 0 ≤ 255 then 2 else if (nint N l).isSome = true ∧ -2147483648 ≤ (nint N l).getD 0 ∧ (nint N l).getD 0 ≤ 2147483647 then 5 else 3 + bigK N l := by
    unfold encNum
    split
    · rfl
    · split
      · simp [be4_length]
      · exact encBig_len N l
  have hgot := numNT_get hck
  have hget := Get_does false (encNum N l) (fun h => by cases h) (by omega) 0 (by omega)
  rw [hgot] at hget
  simp only [getT, getP, getE] at hget
  have hcmp := Cmp_same N (emp l) (emp l) l hck
  have hb384 := (nbits_le N l).2
  have hK : bigK N l = (nbits N l + 7) / 8 := rfl
  obtain ⟨L, hL⟩ : ∃ L, L = (encNum N l).length := ⟨_, rfl⟩
  generalize encNum N l = B at *
  rw [← hL] at hlen hlen2 hget
  refine W_cutseq (fun st => st.tm 10 = .sl false 1 (bsl B) false ∧ st.tm 8 = .ref (.loc 8 7 c) 0 ∧ st.hp (.arg 0) = none ∧ st.hp (.arg 1) = none ∧ st.hp (.arg 2) = none ∧ st.hp (.loc 8 7 c) = some ⟨[.bool N, .sl (emp l) 1 (lsl l) false], true⟩) ?_ ?_
  · simp only [go_sem, W_cond, W_block, g8, h0, h1, h2, h8]
    have hc := hput
    try simp only [go_sem, List.length_append, bsl_nil, htA] at hc
    refine WCallR_does hc (by rfl) (by rfl) ?_
    clear hc
    simp only [go_sem, W_cond, W_block, g8, h0, h1, h2, h8]
  clear g8 h0 h1 h2 h8 tm hp clk
  rintro tm hp clk ⟨g10, g8, h0, h1, h2, h8⟩
  replace g10 : tm 10 = _ := g10
  replace g8 : tm 8 = _ := g8
  replace h0 : hp (.arg 0) = _ := h0
  replace h1 : hp (.arg 1) = _ := h1
  replace h2 : hp (.arg 2) = _ := h2
  replace h8 : hp (.loc 8 7 c) = _ := h8
  have w1 : IntKind.i64.wrap ((nbits N l : Int) + 7) = ((nbits N l + 7 : Nat) : Int) := by rw [wrap64_id _ (by omega) (by omega)]; omega
  have w2 : IntKind.i64.wrap (((nbits N l + 7 : Nat) : Int).tdiv 8) = ((bigK N l : Nat) : Int) := by
    rw [show ((nbits N l + 7 : Nat) : Int).tdiv 8 = ((bigK N l : Nat) : Int) from rfl]
    exact wrap64_id _ (by omega) (by omega)
  have w3 : IntKind.i64.wrap (3 + ((bigK N l : Nat) : Int)) = ((3 + bigK N l : Nat) : Int) := by rw [wrap64_id _ (by omega) (by omega)]; omega
  refine W_cutseq (fun st => st.tm 11 = .int .i64 ((3 + bigK N l : Nat) : Int) ∧ st.tm 10 = .sl false 1 (bsl B) false ∧ st.tm 8 = .ref (.loc 8 7 c) 0 ∧ st.hp (.arg 0) = none ∧ st.hp (.arg 1) = none ∧ st.hp (.arg 2) = none ∧ st.hp (.loc 8 7 c) = some ⟨[.bool N, .sl (emp l) 1 (lsl l) false], true⟩) ?_ ?_
  · simp only [go_sem, W_cond, W_block, g8, g10, h0, h1, h2, h8]
    have hc := hbits
    try simp only [go_sem, List.length_append, numA] at hc
    refine WCallR_does hc (by rfl) (by rfl) ?_
    clear hc
    simp only [go_sem, W_cond, W_block, g8, g10, h0, h1, h2, h8, w1, w2, w3]
  clear g8 g10 h0 h1 h2 h8 tm hp clk
  rintro tm hp clk ⟨g11, g10, g8, h0, h1, h2, h8⟩
  replace g11 : tm 11 = _ := g11
  replace g10 : tm 10 = _ := g10
  replace g8 : tm 8 = _ := g8
  replace h0 : hp (.arg 0) = _ := h0
  replace h1 : hp (.arg 1) = _ := h1
  replace h2 : hp (.arg 2) = _ := h2
  replace h8 : hp (.loc 8 7 c) = _ := h8
  obtain ⟨iv, hiv⟩ : ∃ iv, iv = (nint N l).getD 0 := ⟨_, rfl⟩
  obtain ⟨ib, hib⟩ : ∃ ib, ib = (nint N l).isSome := ⟨_, rfl⟩
  have hvI : vI (nint N l) = .int .i64 iv := by rw [vI, hiv]
  rw [hvI, ← hib] at hint
  rw [← hiv, ← hib] at hlen2
  refine W_cutseq (fun st => st.tm 12 = .int .i64 iv ∧ st.tm 13 = .bool ib ∧ st.tm 11 = .int .i64 ((3 + bigK N l : Nat) : Int) ∧ st.tm 10 = .sl false 1 (bsl B) false ∧ st.tm 8 = .ref (.loc 8 7 c) 0 ∧ st.hp (.arg 0) = none ∧ st.hp (.arg 1) = none ∧ st.hp (.arg 2) = none ∧ st.hp (.loc 8 7 c) = some ⟨[.bool N, .sl (emp l) 1 (lsl l) false], true⟩) ?_ ?_
  · simp only [go_sem, W_cond, W_block, g8, g10, g11, h0, h1, h2, h8]
    have hc := hint
    try simp only [go_sem, List.length_append, numA] at hc
    refine WCallR_does hc (by rfl) (by rfl) ?_
    clear hc
    simp only [go_sem, W_cond, W_block, g8, g10, g11, h0, h1, h2, h8]
  clear g8 g10 g11 h0 h1 h2 h8 tm hp clk
  rintro tm hp clk ⟨g12, g13, g11, g10, g8, h0, h1, h2, h8⟩
  replace g12 : tm 12 = _ := g12
  replace g13 : tm 13 = _ := g13
  replace g11 : tm 11 = _ := g11
  replace g10 : tm 10 = _ := g10
  replace g8 : tm 8 = _ := g8
  replace h0 : hp (.arg 0) = _ := h0
  replace h1 : hp (.arg 1) = _ := h1
  replace h2 : hp (.arg 2) = _ := h2
  replace h8 : hp (.loc 8 7 c) = _ := h8
  refine W_cutseq (fun st => st.tm 11 = .int .i64 (L : Int) ∧ st.tm 10 = .sl false 1 (bsl B) false ∧ st.tm 8 = .ref (.loc 8 7 c) 0 ∧ st.hp (.arg 0) = none ∧ st.hp (.arg 1) = none ∧ st.hp (.arg 2) = none ∧ st.hp (.loc 8 7 c) = some ⟨[.bool N, .sl (emp l) 1 (lsl l) false], true⟩) ?_ ?_
  · cases hb : ib with
    | false =>
      rw [hb] at g13 hlen2
      rw [if_neg (by simp), if_neg (by simp)] at hlen2
      rw [hlen2]
      simp only [go_sem, W_cond, W_block, g8, g10, g11, g12, g13, h0, h1, h2, h8]
    | true =>
      rw [hb] at g13 hlen2
      by_cases c1 : 0 ≤ iv ∧ iv ≤ 255
      · rw [if_pos ⟨rfl, c1⟩] at hlen2
        rw [hlen2]
        have q1 : iv ≥ 0 := c1.1
        have q2 : iv ≤ 255 := c1.2
        simp only [go_sem, W_cond, W_block, g8, g10, g11, g12, g13, h0, h1, h2, h8, q1, q2]
      · rw [if_neg (fun h => c1 h.2)] at hlen2
        by_cases c2 : -2147483648 ≤ iv ∧ iv ≤ 2147483647
        · rw [if_pos ⟨rfl, c2⟩] at hlen2
          rw [hlen2]
          have r1 : iv ≥ -2147483648 := c2.1
          have r2 : iv < 2147483648 := by omega
          by_cases q1 : iv ≥ 0
          · have q2 : ¬ iv ≤ 255 := fun h => c1 ⟨q1, h⟩
            simp only [go_sem, W_cond, W_block, g8, g10, g11, g12, g13, h0, h1, h2, h8, q1, q2, r1, r2]
          · simp only [go_sem, W_cond, W_block, g8, g10, g11, g12, g13, h0, h1, h2, h8, q1, r1, r2]
        · rw [if_neg (fun h => c2 h.2)] at hlen2
          rw [hlen2]
          by_cases r1 : iv ≥ -2147483648
          · have r2 : ¬ iv < 2147483648 := fun h => c2 ⟨r1, by omega⟩
            have q1 : iv ≥ 0 := by omega
            have q2 : ¬ iv ≤ 255 := by omega
            simp only [go_sem, W_cond, W_block, g8, g10, g11, g12, g13, h0, h1, h2, h8, q1, q2, r1, r2]
          · have q1 : ¬ iv ≥ 0 := by omega
            simp only [go_sem, W_cond, W_block, g8, g10, g11, g12, g13, h0, h1, h2, h8, q1, r1]
  clear g8 g10 g11 g12 g13 h0 h1 h2 h8 tm hp clk
  rintro tm hp clk ⟨g11, g10, g8, h0, h1, h2, h8⟩
  replace g11 : tm 11 = _ := g11
  replace g10 : tm 10 = _ := g10
  replace g8 : tm 8 = _ := g8
  replace h0 : hp (.arg 0) = _ := h0
  replace h1 : hp (.arg 1) = _ := h1
  replace h2 : hp (.arg 2) = _ := h2
  replace h8 : hp (.loc 8 7 c) = _ := h8
  rw [htA] at hget
  rw [show ((0 : Nat) : Int) = 0 from rfl] at hget
  simp only [go_sem, W_cond, W_block, g8, g10, g11, h0, h1, h2, h8]
  have hc := hget
  try simp only [go_sem, List.length_append] at hc
  refine WCallR_does hc (by rfl) (by rfl) ?_
  clear hc
  simp only [go_sem, W_cond, W_block, g8, g10, g11, h0, h1, h2, h8, ← hL]
  have hc := hcmp
  try simp only [go_sem, List.length_append, numA] at hc
  refine WCallR_does hc (by rfl) (by rfl) ?_
  clear hc
  simp only [go_sem, W_cond, W_block]
  have hc := awake_does
  try simp only [go_sem, List.length_append] at hc
  refine WCallR_does hc (by rfl) (by rfl) ?_
  clear hc
  simp only [go_sem, W_cond, W_block]
end Go.Proofs.Ythbbollhojdjdaa
