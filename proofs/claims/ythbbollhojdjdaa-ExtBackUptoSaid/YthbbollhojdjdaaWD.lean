/- WALKS, 13: num.Of; the reader: how many; a number of its sign and bytes. Conditions: lengths below the greatest. -/
import Derived.Test.YthbbollhojdjdaaWC
namespace Go.Proofs.Ythbbollhojdjdaa
open Go.Ab
set_option maxRecDepth 100000
set_option linter.unusedSimpArgs false
set_option linter.unusedVariables false

def limbs2 (m : Nat) : List UInt32 := [UInt32.ofNat m, UInt32.ofNat (m / 4294967296)]
def ofL (v : Int) : List UInt32 := madeL (limbs2 v.natAbs)
def ofN (v : Int) : Bool := madeN (decide (v < 0)) (limbs2 v.natAbs)

theorem u32ofNat (m : Nat) : AV.int .u32 (IntKind.u32.wrap (m : Int)) = .int .u32 ((UInt32.ofNat m).toNat : Nat) := by
  congr 1

theorem Of_does (v : Int) (h1 : -9223372036854775808 ≤ v) (h2 : v ≤ 9223372036854775807) :
    FDoes Try.prog 21 [.int .i64 v] [none] [.v (numA (ofN v) (emp (ofL v)) (ofL v))] [none] none := by
  refine FDoes.of (E := env) ttok mixed Try.func21 (by kernel_rfl) rfl (by kernel_rfl) (rl := [.cell 2 25]) rfl (Nat.le_of_ble_eq_true rfl) false ?_
  have hc := made_does (decide (v < 0)) false true (limbs2 v.natAbs) (by simp [limbs2])
  have hd : ((v.natAbs : Nat) : Int).fdiv 4294967296 = ((v.natAbs / 4294967296 : Nat) : Int) := by rw [Int.fdiv_eq_ediv_of_nonneg _ (by omega)]; omega
  simp only [limbs2, lsl, List.map_cons, List.map_nil, ← u32ofNat] at hc
  by_cases hv : v < 0
  · have hw : IntKind.u64.wrap (0 - IntKind.u64.wrap v) = (v.natAbs : Nat) := by
      rw [wrap_u64, wrap_u64]; omega
    simp only [go_sem, W_cond, W_block, hv, hw, hd]
    simp only [hv, decide_true] at hc
    have hc := hc
    try simp only [go_sem, List.length_append, numA] at hc
    refine WCallR_does hc (by rfl) (by rfl) ?_
    clear hc
    simp only [go_sem, W_cond, W_block, numA, ofN, ofL, hv, limbs2]
  · have hw : IntKind.u64.wrap v = (v.natAbs : Nat) := by
      rw [wrap_u64]; omega
    simp only [go_sem, W_cond, W_block, hv, hw, hd]
    simp only [hv, decide_false] at hc
    have hc := hc
    try simp only [go_sem, List.length_append, numA] at hc
    refine WCallR_does hc (by rfl) (by rfl) ?_
    clear hc
    simp only [go_sem, W_cond, W_block, numA, ofN, ofL, hv, limbs2]

/-- Bytes as a number, the highest first. -/
def beV (l : List UInt8) : Nat := l.foldl (fun a x => a * 256 + x.toNat) 0
theorem beV_snoc (l : List UInt8) (x : UInt8) : beV (l ++ [x]) = beV l * 256 + x.toNat := by simp [beV]
theorem beV_lt : ∀ (n : Nat) (l : List UInt8), l.length = n → beV l < 256 ^ n
  | 0, l, h => by
    have : l = [] := List.eq_nil_of_length_eq_zero h
    subst this; decide
  | n + 1, l, h => by
    have hne : l ≠ [] := by intro e; subst e; simp at h
    have e : l = l.dropLast ++ [l.getLast hne] := (List.dropLast_concat_getLast hne).symm
    have := beV_lt n l.dropLast (by rw [List.length_dropLast]; omega)
    have hx : (l.getLast hne).toNat < 256 := (l.getLast hne).toNat_lt
    rw [e, beV_snoc, Nat.pow_succ]
    omega

theorem or_low (n x : Nat) (hn : n < 1099511627776) (hx : x < 256) : bitsA .or .i64 ((n * 256 : Nat) : Int) (x : Int) = ((n * 256 + x : Nat) : Int) := by
  show IntKind.i64.wrap (((BitVec.ofInt 64 ((n * 256 : Nat) : Int) ||| BitVec.ofInt 64 (x : Int)).toNat : Nat) : Int) = _
  have : (BitVec.ofInt 64 ((n * 256 : Nat) : Int) ||| BitVec.ofInt 64 (x : Int)).toNat = n * 256 + x := by
    rw [ofInt_nat, ofInt_nat, BitVec.toNat_or, BitVec.toNat_ofNat, BitVec.toNat_ofNat, Nat.mod_eq_of_lt (by omega), Nat.mod_eq_of_lt (by omega)]
    have := Nat.two_pow_add_eq_or_of_lt (i := 8) (b := x) (by omega) n
    rw [Nat.mul_comm n, show (256 : Nat) = 2 ^ 8 from rfl, ← this]
  rw [this, wrap64_id _ (by omega) (by omega)]

theorem bsl_get {l : List UInt8} {i : Nat} {x : UInt8} (h : l[i]? = some x) : (bsl l)[i]? = some [.int .u8 x.toNat] := by
  unfold bsl; rw [List.getElem?_map, h]; rfl

/-- The number is read; then it is asked. -/
theorem many_walk (bn : Bool) (B : List UInt8) (pos : Nat) (terms : Int) (k : Nat) (least most : Int) (hB : B.length ≤ 1000000000) (hk : k ≤ 4) (hn : pos + k ≤ B.length)
    (v : Nat) (hv : v = beV ((B.drop pos).take k)) (b : Bool) (hb : b = !decide ((v : Int) < least ∨ (v : Int) > most)) :
    FDoes Try.prog 58 [.ref (.arg 0) 0, .int .i64 k, .int .i64 least, .int .i64 most] [some ⟨rdC bn B pos terms 0, true⟩, none, none, none] [.v (.int .i64 (bif b then v else 0))] [some ⟨rdC bn B (pos + k) terms (bif b then 0 else 4), true⟩, none, none, none] none := by
  refine FDoes.of (E := env) ttok mixed Try.func58 (by kernel_rfl) rfl (by kernel_rfl) (rl := [.tmp 8]) rfl (Nat.le_of_ble_eq_true rfl) false ?_
  simp only [go_sem, W_cond, W_block, rdC]
  have hc := take_ok bn B pos terms k hB hn
  try simp only [go_sem, List.length_append, rdC] at hc
  refine WCallR_does hc (by rfl) (by rfl) ?_
  clear hc
  have hlen : ((B.drop pos).take k).length = k := by simp; omega
  generalize (B.drop pos).take k = l at *
  simp only [go_sem, W_cond, W_block, hlen]
  refine W_loop (fun (i : Nat) st => i ≤ k ∧ st.tm 0 = .ref (.arg 0) 0 ∧ st.tm 2 = .int .i64 least ∧ st.tm 3 = .int .i64 most ∧ st.tm 14 = .sl bn 1 (bsl l) true ∧ st.tm 15 = .int .i64 k ∧ st.tm 16 = .int .i64 i ∧ st.tm 9 = .int .i64 (beV (l.take i)) ∧
    st.hp (.arg 0) = some ⟨[.sl bn 1 (bsl B) false, .int .i64 ((pos + k : Nat) : Int), .int .i64 terms, .int .i64 0], true⟩ ∧ st.hp (.arg 1) = none ∧ st.hp (.arg 2) = none ∧ st.hp (.arg 3) = none) (fun i => k - i) 0 ?_ ?_
  · simp only [go_sem, W_cond, W_block, List.take_zero, beV, List.foldl_nil]
  · rintro i tm hp clk ⟨hi, g0, g2, g3, g4, g5, g6, g7, g8, g9, g10, g11⟩
    replace g0 : tm 0 = _ := g0
    replace g2 : tm 2 = _ := g2
    replace g3 : tm 3 = _ := g3
    replace g4 : tm 14 = _ := g4
    replace g5 : tm 15 = _ := g5
    replace g6 : tm 16 = _ := g6
    replace g7 : tm 9 = _ := g7
    replace g8 : hp (.arg 0) = _ := g8
    replace g9 : hp (.arg 1) = _ := g9
    replace g10 : hp (.arg 2) = _ := g10
    replace g11 : hp (.arg 3) = _ := g11
    by_cases hlt : i < k
    · have hlt' : (i : Int) < (k : Int) := by omega
      have hi0 : ¬ (i : Int) < 0 := by omega
      have hg : l[i]? = some l[i] := List.getElem?_eq_getElem (by omega)
      have hw : IntKind.i64.wrap ((i : Int) + 1) = ((i + 1 : Nat) : Int) := by rw [wrap64_id _ (by omega) (by omega)]; omega
      have hx : l[i].toNat < 256 := l[i].toNat_lt
      have hxw : IntKind.i64.wrap (l[i].toNat : Int) = (l[i].toNat : Int) := wrap64_id _ (by omega) (by omega)
      have hlt2 : beV (l.take i) < 1099511627776 := by
        have := beV_lt i (l.take i) (by simp; omega)
        have h4 : i = 0 ∨ i = 1 ∨ i = 2 ∨ i = 3 := by omega
        rcases h4 with h4 | h4 | h4 | h4 <;> (rw [h4] at this; rw [h4]; omega)
      have hshl : IntKind.i64.wrap ((beV (l.take i) : Int) * 256) = ((beV (l.take i) * 256 : Nat) : Int) := by rw [wrap64_id _ (by omega) (by omega)]; omega
      have hor := or_low (beV (l.take i)) l[i].toNat hlt2 hx
      have hs : beV (l.take (i + 1)) = beV (l.take i) * 256 + l[i].toNat := by
        rw [← beV_snoc, List.take_add_one, hg]; rfl
      simp only [go_sem, W_cond, W_block, g0, g2, g3, g4, g5, g6, g7, g8, g9, g10, g11, hlt', hi0, bsl_get hg, hw, hxw, hshl, hor]
      exact ⟨i + 1, ⟨by omega, rfl, by rw [hs]⟩, by omega⟩
    · have hlt' : ¬ (i : Int) < (k : Int) := by omega
      have hi : i = l.length := by omega
      rw [hi, List.take_length, ← hv] at g7
      have hlt2 : ¬ ((l.length : Nat) : Int) < (k : Int) := by omega
      rw [hi] at g6
      by_cases c1 : (v : Int) < least
      · have hb' : b = false := by rw [hb]; simp [c1]
        simp only [go_sem, W_cond, W_block, g0, g2, g3, g4, g5, g6, g7, g8, g9, g10, g11, hlt2, c1, hb']
        have hc := fail_does bn B (pos + k) terms 0 4
        try simp only [go_sem, List.length_append, rdC] at hc
        refine WCallR_does hc (by rfl) (by rfl) ?_
        clear hc
        simp only [go_sem, W_cond, W_block, g0, g2, g3, g4, g5, g6, g7, g8, g9, g10, g11]
      · by_cases c2 : (v : Int) > most
        · have hb' : b = false := by rw [hb]; simp [c2]
          simp only [go_sem, W_cond, W_block, g0, g2, g3, g4, g5, g6, g7, g8, g9, g10, g11, hlt2, c1, c2, hb']
          have hc := fail_does bn B (pos + k) terms 0 4
          try simp only [go_sem, List.length_append, rdC] at hc
          refine WCallR_does hc (by rfl) (by rfl) ?_
          clear hc
          simp only [go_sem, W_cond, W_block, g0, g2, g3, g4, g5, g6, g7, g8, g9, g10, g11]
        · have hb' : b = true := by rw [hb]; simp [c1, c2]
          simp only [go_sem, W_cond, W_block, g0, g2, g3, g4, g5, g6, g7, g8, g9, g10, g11, hlt2, c1, c2, hb']

/-- Nothing is read. -/
theorem many_short (bn : Bool) (B : List UInt8) (pos : Nat) (terms e : Int) (k : Nat) (least most : Int) (hB : B.length ≤ 1000000000) (hp : pos ≤ B.length) (hk : k ≤ 4) (hn : ¬ e = 0 ∨ B.length < pos + k) :
    FDoes Try.prog 58 [.ref (.arg 0) 0, .int .i64 k, .int .i64 least, .int .i64 most] [some ⟨rdC bn B pos terms e, true⟩, none, none, none] [.v (.int .i64 0)] [some ⟨rdC bn B pos terms (if e = 0 then 3 else e), true⟩, none, none, none] none := by
  refine FDoes.of (E := env) ttok mixed Try.func58 (by kernel_rfl) rfl (by kernel_rfl) (rl := [.tmp 8]) rfl (Nat.le_of_ble_eq_true rfl) false ?_
  have hc := take_bad bn B pos terms e k hB hp hn
  have he : ¬ (if e = 0 then 3 else e) = 0 := by split <;> omega
  generalize (if e = 0 then 3 else e) = e' at *
  simp only [go_sem, W_cond, W_block, rdC]
  have hc := hc
  try simp only [go_sem, List.length_append, rdC] at hc
  refine WCallR_does hc (by rfl) (by rfl) ?_
  clear hc
  simp only [go_sem, W_cond, W_block]
  refine W_loop (fun (i : Nat) st => st.tm 0 = .ref (.arg 0) 0 ∧ st.tm 14 = .sl true 1 [] true ∧ st.tm 15 = .int .i64 0 ∧ st.tm 16 = .int .i64 0 ∧
    st.hp (.arg 0) = some ⟨[.sl bn 1 (bsl B) false, .int .i64 (pos : Nat), .int .i64 terms, .int .i64 e'], true⟩ ∧ st.hp (.arg 1) = none ∧ st.hp (.arg 2) = none ∧ st.hp (.arg 3) = none) (fun i => i) 0 ?_ ?_
  · simp only [go_sem, W_cond, W_block]
  · rintro i tm hp clk ⟨g0, g4, g5, g6, g8, g9, g10, g11⟩
    replace g0 : tm 0 = _ := g0
    replace g4 : tm 14 = _ := g4
    replace g5 : tm 15 = _ := g5
    replace g6 : tm 16 = _ := g6
    replace g8 : hp (.arg 0) = _ := g8
    replace g9 : hp (.arg 1) = _ := g9
    replace g10 : hp (.arg 2) = _ := g10
    replace g11 : hp (.arg 3) = _ := g11
    simp only [go_sem, W_cond, W_block, g0, g4, g5, g6, g8, g9, g10, g11, he]

/-! ### a number of its sign and bytes -/

def bigX (i : Nat) (x : UInt8) : UInt32 := UInt32.ofNat (x.toNat * 2 ^ (8 * (i % 4)))
def bigF : Nat → List UInt8 → List UInt32 → List UInt32
  | _, [], L => L
  | i, x :: bs, L => bigF (i + 1) bs (L.set (i / 4) ((L[i / 4]?).getD 0 ||| bigX i x))
def bigL (bs : List UInt8) : List UInt32 := bigF 0 bs (List.replicate ((bs.length + 3) / 4) 0)

theorem bigF_length : ∀ (bs : List UInt8) (i : Nat) (L : List UInt32), (bigF i bs L).length = L.length
  | [], i, L => rfl
  | x :: bs, i, L => by rw [bigF, bigF_length bs]; simp
theorem bigF_snoc : ∀ (bs : List UInt8) (x : UInt8) (i : Nat) (L : List UInt32), bigF i (bs ++ [x]) L = (bigF i bs L).set ((i + bs.length) / 4) (((bigF i bs L)[(i + bs.length) / 4]?).getD 0 ||| bigX (i + bs.length) x)
  | [], x, i, L => by simp [bigF]
  | y :: bs, x, i, L => by
    rw [List.cons_append, bigF, bigF_snoc bs x, bigF, List.length_cons, show i + 1 + bs.length = i + (bs.length + 1) by omega]

theorem or_u32 (a b : UInt32) : bitsA .or .u32 (a.toNat : Int) (b.toNat : Int) = ((a ||| b).toNat : Int) := by
  show IntKind.u32.wrap (((BitVec.ofInt 32 (a.toNat : Int) ||| BitVec.ofInt 32 (b.toNat : Int)).toNat : Nat) : Int) = _
  have e : ∀ x : UInt32, BitVec.ofInt 32 (x.toNat : Int) = x.toBitVec := by intro x; simp
  rw [e, e, ← UInt32.toBitVec_or]
  have := (a ||| b).toNat_lt
  simp only [IntKind.wrap, IntKind.bits, IntKind.signed, Bool.false_and]
  show ((a ||| b).toNat : Int) % 4294967296 = _
  omega

theorem lce_get {l : List UInt32} {i : Nat} {x : UInt32} (h : l[i]? = some x) : (lce l).drop i = AV.int .u32 x.toNat :: (lce l).drop (i + 1) := by
  have hi : i < l.length := by
    rcases Nat.lt_or_ge i l.length with h' | h'
    · exact h'
    · rw [List.getElem?_eq_none h'] at h; cases h
  have hx : l[i] = x := by rw [List.getElem?_eq_getElem hi] at h; exact Option.some.inj h
  rw [List.drop_eq_getElem_cons (by rw [lce_length]; exact hi)]
  congr 1
  simp [lce, hx]

theorem lce_set (l : List UInt32) (i : Nat) (x : UInt32) (hi : i < l.length) : (lce l).take i ++ [AV.int .u32 x.toNat] ++ (lce l).drop (i + 1) = lce (l.set i x) := by
  rw [List.set_eq_take_append_cons_drop, if_pos hi, lce_append, lce_take, lce_drop]
  simp [lce]

theorem big_small (n f : Bool) (b : List UInt8) (hb : b.length < 2) : FDoes Try.prog 83 [.sl n 1 (bsl b) f] [none] [.v (numA false true [])] [none] none := by
  refine FDoes.of (E := env) ttok mixed Try.func83 (by kernel_rfl) rfl (by kernel_rfl) (rl := [.cell 2 25]) rfl (Nat.le_of_ble_eq_true rfl) false ?_
  have h : (b.length : Int) < 2 := by omega
  simp only [go_sem, W_cond, W_block, h, numA, lsl]

theorem big_does (n f : Bool) (s : UInt8) (b : List UInt8) (hb : 1 ≤ b.length) (hb2 : b.length ≤ 1000000) : FDoes Try.prog 83 [.sl n 1 (bsl (s :: b)) f] [none] [.v (numA (decide (s = 1)) false (bigL b))] [none] none := by
  refine FDoes.of (E := env) ttok mixed Try.func83 (by kernel_rfl) rfl (by kernel_rfl) (rl := [.cell 2 25]) rfl (Nat.le_of_ble_eq_true rfl) false ?_
  have h : ¬ ((b.length + 1 : Nat) : Int) < 2 := by omega
  have hg : (bsl (s :: b))[0]? = some [.int .u8 s.toNat] := rfl
  have hw : IntKind.i64.wrap (((b.length + 1 : Nat) : Int) + 2) = ((b.length + 3 : Nat) : Int) := by rw [wrap64_id _ (by omega) (by omega)]; omega
  have hq : IntKind.i64.wrap (((b.length + 3 : Nat) : Int).tdiv 4) = (((b.length + 3) / 4 : Nat) : Int) := by
    rw [show ((b.length + 3 : Nat) : Int).tdiv 4 = (((b.length + 3) / 4 : Nat) : Int) from rfl]
    exact wrap64_id _ (by omega) (by omega)
  have hs : ((s.toNat : Int) = 1) = (s = 1) := by
    apply propext
    constructor
    · intro h; exact UInt8.toNat_inj.1 (by show s.toNat = 1; omega)
    · rintro rfl; rfl
  have c1 : (0 : Int) ≤ (((b.length + 3) / 4 : Nat) : Int) := by omega
  have c2 : (((b.length + 3) / 4 : Nat) : Int) * 4 ≤ 140737488355328 := by omega
  have e1 : b.length + 1 - 1 = b.length := by omega
  have e2 : (bsl b).take b.length = bsl b := by rw [← bsl_length b, List.take_length]
  simp only [go_sem, W_cond, W_block, h, bsl_cons, ofByte, hw, hq, hs, c1, c2, zeros_lce, e1, e2]
  refine ⟨by kernel_rfl, ?_⟩
  generalize hK : (b.length + 3) / 4 = K at *
  refine W_loop (fun (i : Nat) st => i ≤ b.length ∧ st.tm 2 = .ref (.loc 2 0 1) 0 ∧ st.tm 3 = .ref (.loc 3 10 3) 0 ∧ st.tm 21 = .sl n 1 (bsl b) f ∧ st.tm 22 = .int .i64 b.length ∧ st.tm 23 = .int .i64 i ∧
    st.hp (.loc 2 0 1) = some ⟨[.bool false, .sl true 1 [] false], true⟩ ∧ st.hp (.loc 3 10 3) = some ⟨[.bool (decide (s = 1)), .arr (.loc 18 8 3) 0 K 1], true⟩ ∧
    st.hp (.loc 18 8 3) = some ⟨lce (bigF 0 (b.take i) (List.replicate K 0)), true⟩ ∧ st.hp (.arg 0) = none) (fun i => b.length - i) 0 ?_ ?_
  · simp only [go_sem, W_cond, W_block, List.take_zero, bigF]
  · rintro i tm hp clk ⟨hi, g0, g1, g2, g3, g4, g5, g6, g7, g8⟩
    replace g0 : tm 2 = _ := g0
    replace g1 : tm 3 = _ := g1
    replace g2 : tm 21 = _ := g2
    replace g3 : tm 22 = _ := g3
    replace g4 : tm 23 = _ := g4
    replace g5 : hp (.loc 2 0 1) = _ := g5
    replace g6 : hp (.loc 3 10 3) = _ := g6
    replace g7 : hp (.loc 18 8 3) = _ := g7
    replace g8 : hp (.arg 0) = _ := g8
    have hfl : (bigF 0 (b.take i) (List.replicate K 0)).length = K := by rw [bigF_length]; simp
    by_cases hlt : i < b.length
    · have hlt' : (i : Int) < (b.length : Int) := by omega
      have hi0 : ¬ (i : Int) < 0 := by omega
      have hgb : b[i]? = some b[i] := List.getElem?_eq_getElem (by omega)
      have hw : IntKind.i64.wrap ((i : Int) + 1) = ((i + 1 : Nat) : Int) := by rw [wrap64_id _ (by omega) (by omega)]; omega
      have hx : b[i].toNat < 256 := b[i].toNat_lt
      have hxw : IntKind.u32.wrap (b[i].toNat : Int) = (b[i].toNat : Int) := by
        show (b[i].toNat : Int) % 4294967296 = _
        omega
      have hq : IntKind.i64.wrap ((i : Int).tdiv 4) = ((i / 4 : Nat) : Int) := by
        rw [show (i : Int).tdiv 4 = ((i / 4 : Nat) : Int) from rfl]
        exact wrap64_id _ (by omega) (by omega)
      have hr : (i : Int).tmod 4 = ((i % 4 : Nat) : Int) := rfl
      have hm : IntKind.i64.wrap (8 * ((i % 4 : Nat) : Int)) = ((8 * (i % 4) : Nat) : Int) := by rw [wrap64_id _ (by omega) (by omega)]; omega
      have hm0 : ¬ ((8 * (i % 4) : Nat) : Int) < 0 := by omega
      have hmm : min (8 * (i % 4)) 32 = 8 * (i % 4) := by omega
      have hsh : IntKind.u32.wrap ((b[i].toNat : Int) * 2 ^ (8 * (i % 4))) = ((bigX i b[i]).toNat : Int) := by
        show ((b[i].toNat : Int) * 2 ^ (8 * (i % 4))) % 4294967296 = _
        rw [bigX, UInt32.toNat_ofNat']
        rw [Int.natCast_emod, Int.natCast_mul, Int.natCast_pow]
        rfl
      have hj0 : ¬ ((i / 4 : Nat) : Int) < 0 := by omega
      have hj1 : ((i / 4 : Nat) : Int) < (K : Int) := by omega
      have hjK : i / 4 < (bigF 0 (b.take i) (List.replicate K 0)).length := by omega
      have hgl : (bigF 0 (b.take i) (List.replicate K 0))[i / 4]? = some (bigF 0 (b.take i) (List.replicate K 0))[i / 4] := List.getElem?_eq_getElem hjK
      have hdr := lce_get hgl
      have hst : bigF 0 (b.take (i + 1)) (List.replicate K 0) = (bigF 0 (b.take i) (List.replicate K 0)).set (i / 4) ((bigF 0 (b.take i) (List.replicate K 0))[i / 4] ||| bigX i b[i]) := by
        rw [List.take_add_one, hgb, Option.toList_some, bigF_snoc, List.length_take, Nat.min_eq_left hi, Nat.zero_add, hgl, Option.getD_some]
      have hset := lce_set (bigF 0 (b.take i) (List.replicate K 0)) (i / 4) ((bigF 0 (b.take i) (List.replicate K 0))[i / 4] ||| bigX i b[i]) hjK
      rw [← hst] at hset
      have hle1 : i / 4 + 1 ≤ K := by omega
      simp only [go_sem, W_cond, W_block, g0, g1, g2, g3, g4, g5, g6, g7, g8, hlt', hi0, bsl_get hgb, hw, hxw, hq, hr, hm, hm0, hmm, hsh, hj0, hj1, hdr, or_u32, hfl, hle1, hset]
      exact ⟨by kernel_rfl, i + 1, ⟨by omega, rfl, rfl⟩, by omega⟩
    · have hlt' : ¬ (i : Int) < (b.length : Int) := by omega
      have hi' : i = b.length := by omega
      subst hi'
      rw [List.take_length] at g7
      have hch := chunk_lce (bigF 0 b (List.replicate K 0))
      rw [List.take_length] at hfl
      rw [hfl] at hch
      have htk : (lce (bigF 0 b (List.replicate K 0))).take K = lce (bigF 0 b (List.replicate K 0)) := List.take_of_length_le (by rw [lce_length, hfl]; exact Nat.le_refl _)
      simp only [go_sem, W_cond, W_block, g0, g1, g2, g3, g4, g5, g6, g7, g8, hlt', hch, hfl, htk, numA, bigL, hK]
end Go.Proofs.Ythbbollhojdjdaa
