/- WALKS, 2: numbers: may it be; of; how many bits; as an int; as bytes. Conditions: none. -/
import Derived.Test.YthbbollhojdjdaaW1
import Derived.Test.YthbbollhojdjdaaAbLoop
namespace Go.Proofs.Ythbbollhojdjdaa
open Go.Ab
set_option maxRecDepth 100000
set_option linter.unusedSimpArgs false

def lsl (l : List UInt32) : List (List AV) := l.map fun x => [.int .u32 x.toNat]
def lce (l : List UInt32) : List AV := l.map fun x => .int .u32 x.toNat
@[go_sem] theorem lsl_length (b : List UInt32) : (lsl b).length = b.length := by simp [lsl]
@[go_sem] theorem lce_length (b : List UInt32) : (lce b).length = b.length := by simp [lce]
@[go_sem] theorem lsl_flatten (b : List UInt32) : (lsl b).flatten = lce b := by
  induction b with
  | nil => rfl
  | cons x l ih => simp only [lsl, lce, List.map_cons, List.flatten_cons] at *; rw [ih]; rfl
@[go_sem] theorem lce_one (b : List UInt32) : (lce b).all one = true := by simp [lce, one]
@[go_sem] theorem lce_nfs (b : List UInt32) : nf.nfs (lce b) = true := by
  induction b with
  | nil => rfl
  | cons x l ih => simp only [lce, List.map_cons, nf.nfs, Bool.and_eq_true] at *; exact ⟨rfl, ih⟩
theorem lce_append (b c : List UInt32) : lce (b ++ c) = lce b ++ lce c := by simp [lce]
theorem lsl_get {l : List UInt32} {i : Nat} {x : UInt32} (h : l[i]? = some x) : (lsl l)[i]? = some [.int .u32 x.toNat] := by
  unfold lsl; rw [List.getElem?_map, h]; rfl

/-- A number. -/
def numC (neg ln : Bool) (l : List UInt32) : List AV := [.bool neg, .sl ln 1 (lsl l) false]
def numA (neg ln : Bool) (l : List UInt32) : AV := .agg [.bool neg, .sl ln 1 (lsl l) false]

def nchk (neg : Bool) (l : List UInt32) : Bool := decide (l.length ≤ 12) && match l.getLast? with | none => !neg | some x => !decide (x = 0)

theorem last_get {l : List UInt32} (h : l ≠ []) : l[l.length - 1]? = some (l.getLast h) := by
  rw [List.getLast_eq_getElem, List.getElem?_eq_getElem]

theorem u32_eq_zero (x : UInt32) : ((x.toNat : Int) = 0) = (x = 0) := by
  apply propext
  constructor
  · intro h; exact UInt32.toNat_inj.1 (by simpa using h)
  · rintro rfl; rfl

theorem check_does (neg ln : Bool) (l : List UInt32) : FDoes Try.prog 69 [numA neg ln l] [none] [.v (.bool (nchk neg l))] [none] none := by
  refine FDoes.of (E := env) ttok mixed Try.func69 (by kernel_rfl) rfl (by kernel_rfl) (rl := [.tmp 2]) rfl (Nat.le_of_ble_eq_true rfl) false ?_
  by_cases hk : l.length ≤ 12
  · cases l with
    | nil =>
      cases neg <;> simp only [go_sem, W_cond, W_block, numA, nchk, List.getLast?_nil]
    | cons a r =>
      have hl : ¬ ((a :: r).length : Int) = 0 := by simp only [List.length_cons]; omega
      have hp : ((a :: r).length : Int) > 0 := by simp
      have hg := lsl_get (last_get (l := a :: r) (by simp))
      have hlast : (a :: r).getLast? = some ((a :: r).getLast (by simp)) := List.getLast?_eq_some_getLast (by simp)
      generalize (a :: r).getLast (by simp) = x at hg hlast
      generalize a :: r = l at *
      have hw : IntKind.i64.wrap ((l.length : Int) - 1) = (l.length : Int) - 1 := wrap64_id _ (by omega) (by omega)
      have hn : ¬ ((l.length : Int) - 1 < 0) := by omega
      have hq : ((l.length : Int) - 1).toNat = l.length - 1 := by omega
      have hk' : (l.length : Int) ≤ 12 := by omega
      simp only [go_sem, W_cond, W_block, numA, nchk, hlast, hl, hp, hw, hn, hq, hg, hk, hk', u32_eq_zero]
  · have hk' : ¬ (l.length : Int) ≤ 12 := by omega
    simp only [go_sem, W_cond, W_block, numA, nchk, hk, hk']

/-- The number that it is, or 0. -/
theorem of_does (neg ln : Bool) (l : List UInt32) : FDoes Try.prog 36 [numA neg ln l] [none] [.v (bif nchk neg l then numA neg ln l else numA false true [])] [none] none := by
  refine FDoes.of (E := env) ttok mixed Try.func36 (by kernel_rfl) rfl (by kernel_rfl) (rl := [.cell 2 25]) rfl (Nat.le_of_ble_eq_true rfl) false ?_
  simp only [go_sem, W_cond, W_block, numA]
  refine WCallR_does (check_does neg ln l) (by rfl) (by rfl) ?_
  cases nchk neg l
  · simp only [go_sem, W_cond, W_block, numA, lsl]
  · simp only [go_sem, W_cond, W_block, numA]

/-- How many bits. -/
def len32 (x : Nat) : Nat := if x = 0 then 0 else x.log2 + 1

theorem len32_shift (k x : Nat) (h : 2 ^ k ≤ x) : len32 x = k + len32 (x / 2 ^ k) := by
  have hk : 0 < 2 ^ k := Nat.two_pow_pos k
  have hx : x ≠ 0 := by omega
  have hq : x / 2 ^ k ≠ 0 := by
    have := (Nat.le_div_iff_mul_le hk).2 (show 1 * 2 ^ k ≤ x by omega)
    omega
  obtain ⟨h1, h2⟩ := (Nat.log2_eq_iff hq).1 rfl
  have h3 := (Nat.le_div_iff_mul_le hk).1 h1
  have h4 := (Nat.div_lt_iff_lt_mul hk).1 h2
  unfold len32
  rw [if_neg hx, if_neg hq]
  have : x.log2 = k + (x / 2 ^ k).log2 := by
    refine (Nat.log2_eq_iff hx).2 ⟨?_, ?_⟩
    · rw [Nat.pow_add, Nat.mul_comm]; exact h3
    · rw [show k + (x / 2 ^ k).log2 + 1 = ((x / 2 ^ k).log2 + 1) + k by omega, Nat.pow_add]; exact h4
  omega

theorem tab_get : ∀ n, n < 256 → ((((0 :: 1 :: 2 :: 2 :: 3 :: 3 :: 3 :: 3 :: 4 :: 4 :: 4 :: 4 :: 4 :: 4 :: 4 :: 4 :: 5 :: 5 :: 5 :: 5 :: 5 :: 5 :: 5 :: 5 :: 5 :: 5 :: 5 :: 5 :: 5 :: 5 :: 5 :: 5 :: 6 :: 6 :: 6 :: 6 :: 6 :: 6 :: 6 :: 6 :: 6 :: 6 :: 6 :: 6 :: 6 :: 6 :: 6 :: 6 :: 6 :: 6 :: 6 :: 6 :: 6 :: 6 :: 6 :: 6 :: 6 :: 6 :: 6 :: 6 :: 6 :: 6 :: 6 :: 6 :: []) : List UInt8).append (7 :: 7 :: 7 :: 7 :: 7 :: 7 :: 7 :: 7 :: 7 :: 7 :: 7 :: 7 :: 7 :: 7 :: 7 :: 7 :: 7 :: 7 :: 7 :: 7 :: 7 :: 7 :: 7 :: 7 :: 7 :: 7 :: 7 :: 7 :: 7 :: 7 :: 7 :: 7 :: 7 :: 7 :: 7 :: 7 :: 7 :: 7 :: 7 :: 7 :: 7 :: 7 :: 7 :: 7 :: 7 :: 7 :: 7 :: 7 :: 7 :: 7 :: 7 :: 7 :: 7 :: 7 :: 7 :: 7 :: 7 :: 7 :: 7 :: 7 :: 7 :: 7 :: 7 :: 7 :: [])).append (((8 :: 8 :: 8 :: 8 :: 8 :: 8 :: 8 :: 8 :: 8 :: 8 :: 8 :: 8 :: 8 :: 8 :: 8 :: 8 :: 8 :: 8 :: 8 :: 8 :: 8 :: 8 :: 8 :: 8 :: 8 :: 8 :: 8 :: 8 :: 8 :: 8 :: 8 :: 8 :: 8 :: 8 :: 8 :: 8 :: 8 :: 8 :: 8 :: 8 :: 8 :: 8 :: 8 :: 8 :: 8 :: 8 :: 8 :: 8 :: 8 :: 8 :: 8 :: 8 :: 8 :: 8 :: 8 :: 8 :: 8 :: 8 :: 8 :: 8 :: 8 :: 8 :: 8 :: 8 :: []) : List UInt8).append (8 :: 8 :: 8 :: 8 :: 8 :: 8 :: 8 :: 8 :: 8 :: 8 :: 8 :: 8 :: 8 :: 8 :: 8 :: 8 :: 8 :: 8 :: 8 :: 8 :: 8 :: 8 :: 8 :: 8 :: 8 :: 8 :: 8 :: 8 :: 8 :: 8 :: 8 :: 8 :: 8 :: 8 :: 8 :: 8 :: 8 :: 8 :: 8 :: 8 :: 8 :: 8 :: 8 :: 8 :: 8 :: 8 :: 8 :: 8 :: 8 :: 8 :: 8 :: 8 :: 8 :: 8 :: 8 :: 8 :: 8 :: 8 :: 8 :: 8 :: 8 :: 8 :: 8 :: 8 :: [])))[n]? = some (UInt8.ofNat (len32 n)) := by decide +kernel

theorem len32_lt : ∀ n, n < 256 → len32 n ≤ 8 := by decide +kernel

theorem len32_does (x : UInt32) : FDoes Try.prog 77 [.int .u32 x.toNat] [none] [.v (.int .i64 (len32 x.toNat))] [none] none := by
  refine FDoes.of (E := env) ttok mixed Try.func77 (by kernel_rfl) rfl (by kernel_rfl) (rl := [.tmp 2]) rfl (Nat.le_of_ble_eq_true rfl) false ?_
  have hx : x.toNat < 4294967296 := x.toNat_lt
  generalize x.toNat = n at *
  have fin : ∀ (m base : Nat) (y : Int), y = (m : Int) → m < 256 → base ≤ 24 → (len32 n = base + len32 m) → IntKind.u8.wrap y = y ∧ ¬ y < 0 ∧ ((((0 :: 1 :: 2 :: 2 :: 3 :: 3 :: 3 :: 3 :: 4 :: 4 :: 4 :: 4 :: 4 :: 4 :: 4 :: 4 :: 5 :: 5 :: 5 :: 5 :: 5 :: 5 :: 5 :: 5 :: 5 :: 5 :: 5 :: 5 :: 5 :: 5 :: 5 :: 5 :: 6 :: 6 :: 6 :: 6 :: 6 :: 6 :: 6 :: 6 :: 6 :: 6 :: 6 :: 6 :: 6 :: 6 :: 6 :: 6 :: 6 :: 6 :: 6 :: 6 :: 6 :: 6 :: 6 :: 6 :: 6 :: 6 :: 6 :: 6 :: 6 :: 6 :: 6 :: 6 :: []) : List UInt8).append (7 :: 7 :: 7 :: 7 :: 7 :: 7 :: 7 :: 7 :: 7 :: 7 :: 7 :: 7 :: 7 :: 7 :: 7 :: 7 :: 7 :: 7 :: 7 :: 7 :: 7 :: 7 :: 7 :: 7 :: 7 :: 7 :: 7 :: 7 :: 7 :: 7 :: 7 :: 7 :: 7 :: 7 :: 7 :: 7 :: 7 :: 7 :: 7 :: 7 :: 7 :: 7 :: 7 :: 7 :: 7 :: 7 :: 7 :: 7 :: 7 :: 7 :: 7 :: 7 :: 7 :: 7 :: 7 :: 7 :: 7 :: 7 :: 7 :: 7 :: 7 :: 7 :: 7 :: 7 :: [])).append (((8 :: 8 :: 8 :: 8 :: 8 :: 8 :: 8 :: 8 :: 8 :: 8 :: 8 :: 8 :: 8 :: 8 :: 8 :: 8 :: 8 :: 8 :: 8 :: 8 :: 8 :: 8 :: 8 :: 8 :: 8 :: 8 :: 8 :: 8 :: 8 :: 8 :: 8 :: 8 :: 8 :: 8 :: 8 :: 8 :: 8 :: 8 :: 8 :: 8 :: 8 :: 8 :: 8 :: 8 :: 8 :: 8 :: 8 :: 8 :: 8 :: 8 :: 8 :: 8 :: 8 :: 8 :: 8 :: 8 :: 8 :: 8 :: 8 :: 8 :: 8 :: 8 :: 8 :: 8 :: []) : List UInt8).append (8 :: 8 :: 8 :: 8 :: 8 :: 8 :: 8 :: 8 :: 8 :: 8 :: 8 :: 8 :: 8 :: 8 :: 8 :: 8 :: 8 :: 8 :: 8 :: 8 :: 8 :: 8 :: 8 :: 8 :: 8 :: 8 :: 8 :: 8 :: 8 :: 8 :: 8 :: 8 :: 8 :: 8 :: 8 :: 8 :: 8 :: 8 :: 8 :: 8 :: 8 :: 8 :: 8 :: 8 :: 8 :: 8 :: 8 :: 8 :: 8 :: 8 :: 8 :: 8 :: 8 :: 8 :: 8 :: 8 :: 8 :: 8 :: 8 :: 8 :: 8 :: 8 :: 8 :: 8 :: [])))[m]? = some (UInt8.ofNat (len32 m)) ∧
      IntKind.i64.wrap (((UInt8.ofNat (len32 m)).toNat : Nat) : Int) = len32 m ∧ IntKind.i64.wrap ((base : Int) + len32 m) = len32 n := by
    rintro m base _ rfl hm hb he
    have h8 := len32_lt m hm
    have hu : (UInt8.ofNat (len32 m)).toNat = len32 m := by
      rw [UInt8.toNat_ofNat']; omega
    refine ⟨by rw [IntKind.wrap_u8]; omega, by omega, tab_get m hm, by rw [hu]; exact wrap64_id _ (by omega) (by omega), ?_⟩
    rw [he, wrap64_id _ (by omega) (by omega)]
    omega
  have w24 : IntKind.i64.wrap 24 = 24 := by decide
  have w8 : IntKind.i64.wrap 8 = 8 := by decide
  have d1 : (n : Int).fdiv 65536 = ((n / 65536 : Nat) : Int) := by rw [Int.fdiv_eq_ediv_of_nonneg _ (by omega)]; rfl
  have d2 : ((n / 65536 : Nat) : Int).fdiv 256 = ((n / 65536 / 256 : Nat) : Int) := by rw [Int.fdiv_eq_ediv_of_nonneg _ (by omega)]; rfl
  have d3 : (n : Int).fdiv 256 = ((n / 256 : Nat) : Int) := by rw [Int.fdiv_eq_ediv_of_nonneg _ (by omega)]; rfl
  by_cases h1 : (n : Int) ≥ 65536
  · have e1 : len32 n = 16 + len32 (n / 65536) := len32_shift 16 n (by omega)
    by_cases h2 : ((n / 65536 : Nat) : Int) ≥ 256
    · have e2 : len32 (n / 65536) = 8 + len32 (n / 65536 / 256) := len32_shift 8 (n / 65536) (by omega)
      obtain ⟨q1, q2, q3, q4, q5⟩ := fin (n / 65536 / 256) 24 _ rfl (by omega) (by omega) (by omega)
      simp only [go_sem, W_cond, W_block, h1, d1, d2, h2, w24, q1, q2, q3, q4, ofByte]
      exact congrArg (fun z => [RV.v (.int .i64 z)]) q5
    · obtain ⟨q1, q2, q3, q4, q5⟩ := fin (n / 65536) 16 _ rfl (by omega) (by omega) (by omega)
      simp only [go_sem, W_cond, W_block, h1, d1, h2, q1, q2, q3, q4, ofByte]
      exact congrArg (fun z => [RV.v (.int .i64 z)]) q5
  · by_cases h2 : (n : Int) ≥ 256
    · have e1 : len32 n = 8 + len32 (n / 256) := len32_shift 8 n (by omega)
      obtain ⟨q1, q2, q3, q4, q5⟩ := fin (n / 256) 8 _ rfl (by omega) (by omega) (by omega)
      simp only [go_sem, W_cond, W_block, h1, h2, d3, w8, q1, q2, q3, q4, ofByte]
      exact congrArg (fun z => [RV.v (.int .i64 z)]) q5
    · obtain ⟨q1, q2, q3, q4, q5⟩ := fin n 0 _ rfl (by omega) (by omega) (by omega)
      simp only [go_sem, W_cond, W_block, h1, h2, q1, q2, q3, q4, ofByte]
      exact congrArg (fun z => [RV.v (.int .i64 z)]) q5

/-- How many bits limbs have (the top one first). -/
def lenr : List UInt32 → Nat
  | [] => 0
  | x :: r => if x = 0 then lenr r else 32 * r.length + len32 x.toNat
def blen (l : List UInt32) : Nat := lenr l.reverse

theorem blen_snoc (p : List UInt32) (x : UInt32) (h : ¬ x = 0) : blen (p ++ [x]) = 32 * p.length + len32 x.toNat := by simp [blen, lenr, h]

theorem len32_le (x : UInt32) : len32 x.toNat ≤ 32 := by
  have hx : x.toNat < 2 ^ 32 := x.toNat_lt
  unfold len32
  split
  · omega
  · rename_i h
    have := (Nat.log2_lt h).2 hx
    omega

theorem Len_does (ln : Bool) (l : List UInt32) (hl : l.length ≤ 1000000) : FDoes Try.prog 43 [.sl ln 1 (lsl l) false] [none] [.v (.int .i64 (blen l))] [none] none := by
  refine FDoes.of (E := env) ttok mixed Try.func43 (by kernel_rfl) rfl (by kernel_rfl) (rl := [.tmp 2]) rfl (Nat.le_of_ble_eq_true rfl) false ?_
  have hw : IntKind.i64.wrap ((l.length : Int) - 1) = (l.length : Int) - 1 := wrap64_id _ (by omega) (by omega)
  simp only [go_sem, W_cond, W_block, hw]
  refine W_loop (fun (k : Nat) st => k ≤ l.length ∧ st.tm 0 = .sl ln 1 (lsl l) false ∧ st.tm 3 = .int .i64 ((k : Int) - 1) ∧ blen l = blen (l.take k)) (fun k => k) l.length ?_ ?_
  · simp only [go_sem, W_cond, W_block, List.take_length]
  · rintro k tm hp clk ⟨hk, h0, h3, hb⟩
    replace h0 : tm 0 = _ := h0
    replace h3 : tm 3 = _ := h3
    cases k with
    | zero =>
      simp only [go_sem, W_cond, W_block, h0, h3, hb, List.take_zero]
      rfl
    | succ k =>
      have hg : l[k]? = some l[k] := List.getElem?_eq_getElem (by omega)
      have hn : ((k + 1 : Nat) : Int) - 1 = (k : Int) := by omega
      have hk0 : (k : Int) ≥ 0 := by omega
      have hk1 : ¬ (k : Int) < 0 := by omega
      have hw1 : IntKind.i64.wrap ((k : Int) - 1) = (k : Int) - 1 := wrap64_id _ (by omega) (by omega)
      have htk : l.take (k + 1) = l.take k ++ [l[k]] := by rw [List.take_add_one, hg]; rfl
      have hlen : (l.take k).length = k := by simp; omega
      by_cases hz : l[k] = 0
      · simp only [go_sem, W_cond, W_block, h0, h3, hn, hk0, hk1, lsl_get hg, u32_eq_zero, hz, hw1]
        exact ⟨k, ⟨by omega, rfl, by rw [hb, htk, hz]; simp [blen, lenr]⟩, by omega⟩
      · simp only [go_sem, W_cond, W_block, h0, h3, hn, hk0, hk1, lsl_get hg, u32_eq_zero, hz, hw1]
        refine WCallR_does (len32_does l[k]) (by rfl) (by rfl) ?_
        have hq := len32_le l[k]
        have e : blen l = 32 * k + len32 l[k].toNat := by
          rw [hb, htk]
          rw [blen_snoc _ _ hz, hlen]
        have e2 : IntKind.i64.wrap (32 * (k : Int)) = 32 * (k : Int) := wrap64_id _ (by omega) (by omega)
        have e3 : IntKind.i64.wrap (32 * (k : Int) + (len32 l[k].toNat : Int)) = (blen l : Int) := by
          rw [wrap64_id _ (by omega) (by omega), e]; omega
        simp only [go_sem, W_cond, W_block, e2, e3]

def nbits (neg : Bool) (l : List UInt32) : Nat := if nchk neg l = true then blen l else 0

theorem nchk_len {neg : Bool} {l : List UInt32} (h : nchk neg l = true) : l.length ≤ 12 := by
  unfold nchk at h
  rw [Bool.and_eq_true] at h
  simpa using h.1

theorem Bits_does (neg ln : Bool) (l : List UInt32) : FDoes Try.prog 23 [numA neg ln l] [none] [.v (.int .i64 (nbits neg l))] [none] none := by
  refine FDoes.of (E := env) ttok mixed Try.func23 (by kernel_rfl) rfl (by kernel_rfl) (rl := [.tmp 2]) rfl (Nat.le_of_ble_eq_true rfl) false ?_
  simp only [go_sem, W_cond, W_block, numA]
  refine WCallR_does (of_does neg ln l) (by rfl) (by rfl) ?_
  cases h : nchk neg l
  · simp only [go_sem, W_cond, W_block, numA]
    refine WCallR_does (Len_does true [] (by simp)) (by rfl) (by rfl) ?_
    simp only [go_sem, W_cond, W_block, nbits, h]
    rfl
  · have := nchk_len h
    simp only [go_sem, W_cond, W_block, numA]
    refine WCallR_does (Len_does ln l (by omega)) (by rfl) (by rfl) ?_
    simp only [go_sem, W_cond, W_block, nbits, h]

/-- A number's size. -/
def val : List UInt32 → Nat
  | [] => 0
  | x :: r => x.toNat + 4294967296 * val r

def nint (neg : Bool) (l : List UInt32) : Option Int :=
  if nchk neg l = true then
    if 2 < l.length then none
    else if neg = true then (if val l ≤ 9223372036854775808 then some (-(val l : Int)) else none)
    else if val l < 9223372036854775808 then some (val l) else none
  else some 0

def vI (o : Option Int) : AV := .int .i64 (o.getD 0)

theorem wrap_u64 (n : Int) : IntKind.u64.wrap n = n % 18446744073709551616 := by simp [IntKind.wrap, IntKind.bits, IntKind.signed]

theorem ofInt_nat (x : Nat) : BitVec.ofInt 64 (x : Int) = BitVec.ofNat 64 x := by simp

theorem or_zero (x : Nat) (h : x < 4294967296) : bitsA .or .u64 0 (x : Int) = (x : Int) := by
  show IntKind.u64.wrap (((BitVec.ofInt 64 0 ||| BitVec.ofInt 64 (x : Int)).toNat : Nat) : Int) = _
  have : (BitVec.ofInt 64 0 ||| BitVec.ofInt 64 (x : Int)).toNat = x := by
    simp
    omega
  rw [this, wrap_u64]
  omega

theorem or_high (x y : Nat) (h : x < 4294967296) (h' : y < 4294967296) : bitsA .or .u64 (x : Int) ((y : Int) * 4294967296) = (x : Int) + y * 4294967296 := by
  show IntKind.u64.wrap (((BitVec.ofInt 64 (x : Int) ||| BitVec.ofInt 64 ((y : Int) * 4294967296)).toNat : Nat) : Int) = _
  have : (BitVec.ofInt 64 (x : Int) ||| BitVec.ofInt 64 ((y : Int) * 4294967296)).toNat = x + y * 4294967296 := by
    rw [show (y : Int) * 4294967296 = ((y * 4294967296 : Nat) : Int) by omega, ofInt_nat, ofInt_nat, BitVec.toNat_or, BitVec.toNat_ofNat, BitVec.toNat_ofNat, Nat.mod_eq_of_lt (by omega), Nat.mod_eq_of_lt (by omega)]
    have := Nat.two_pow_add_eq_or_of_lt (i := 32) (b := x) (by omega) y
    rw [Nat.or_comm, Nat.mul_comm y, show (4294967296 : Nat) = 2 ^ 32 from rfl, ← this]
    omega
  rw [this, wrap_u64]
  omega

theorem val_two (x y : UInt32) : val [x, y] = x.toNat + 4294967296 * y.toNat := by simp [val]

def nint' (neg : Bool) (l : List UInt32) : Option Int :=
  if 2 < l.length then none
  else if neg = true then (if val l ≤ 9223372036854775808 then some (-(val l : Int)) else none)
  else if val l < 9223372036854775808 then some (val l) else none

theorem Int_does (neg ln : Bool) (l : List UInt32) : FDoes Try.prog 24 [numA neg ln l] [none] [.v (vI (nint neg l)), .v (.bool (nint neg l).isSome)] [none] none := by
  refine FDoes.of (E := env) ttok mixed Try.func24 (by kernel_rfl) rfl (by kernel_rfl) (rl := [.tmp 2, .tmp 3]) rfl (Nat.le_of_ble_eq_true rfl) false ?_
  simp only [go_sem, W_cond, W_block, numA]
  refine WCallR_does (of_does neg ln l) (by rfl) (by rfl) ?_
  have key : ∃ neg2 ln2 l2, (bif nchk neg l then numA neg ln l else numA false true []) = numA neg2 ln2 l2 ∧ nint neg l = nint' neg2 l2 := by
    cases h : nchk neg l
    · exact ⟨false, true, [], rfl, by simp [nint, nint', h, val]⟩
    · exact ⟨neg, ln, l, rfl, by simp [nint, nint', h]⟩
  obtain ⟨n2, ln2, l2, e1, e2⟩ := key
  rw [e1, e2]
  clear e1 e2
  by_cases h2 : (l2.length : Int) > 2
  · have h2' : 2 < l2.length := by omega
    simp only [go_sem, W_cond, W_block, numA, h2, nint', h2', vI, Option.isSome_none]
  · simp only [go_sem, W_cond, W_block, numA, h2]
    refine W_loop (fun (i : Nat) st => i ≤ l2.length ∧ st.tm 1 = .ref (.loc 1 0 1) 0 ∧ st.hp (.loc 1 0 1) = some ⟨[.bool n2, .sl ln2 1 (lsl l2) false], true⟩ ∧ st.tm 14 = .sl ln2 1 (lsl l2) false ∧ st.tm 15 = .int .i64 l2.length ∧
      st.tm 16 = .int .i64 i ∧ st.tm 4 = .int .u64 (val (l2.take i)) ∧ st.hp (.arg 0) = none) (fun i => l2.length - i) 0 ?_ ?_
    · simp only [go_sem, W_cond, W_block, List.take_zero, val]
    · rintro i tm hp clk ⟨hi, g1, g2, g3, g4, g5, g6, g7⟩
      replace g1 : tm 1 = _ := g1
      replace g2 : hp (.loc 1 0 1) = _ := g2
      replace g3 : tm 14 = _ := g3
      replace g4 : tm 15 = _ := g4
      replace g5 : tm 16 = _ := g5
      replace g6 : tm 4 = _ := g6
      replace g7 : hp (.arg 0) = _ := g7
      by_cases hlt : i < l2.length
      · have hlt' : (i : Int) < (l2.length : Int) := by omega
        have hg : l2[i]? = some l2[i] := List.getElem?_eq_getElem hlt
        have hi0 : ¬ (i : Int) < 0 := by omega
        have hw : IntKind.i64.wrap ((i : Int) + 1) = ((i + 1 : Nat) : Int) := by rw [wrap64_id _ (by omega) (by omega)]; omega
        have hw2 : IntKind.i64.wrap (32 * (i : Int)) = 32 * (i : Int) := wrap64_id _ (by omega) (by omega)
        have hw3 : ¬ 32 * (i : Int) < 0 := by omega
        have hx : l2[i].toNat < 4294967296 := l2[i].toNat_lt
        have hu : IntKind.u64.wrap (l2[i].toNat : Int) = (l2[i].toNat : Int) := by rw [wrap_u64]; omega
        have hsh : bitsA .or .u64 (val (l2.take i) : Int) (IntKind.u64.wrap ((l2[i].toNat : Int) * 2 ^ min (32 * (i : Int)).toNat 64)) = ((val (l2.take (i + 1)) : Nat) : Int) := by
          have hcase : i = 0 ∨ i = 1 := by omega
          rcases hcase with rfl | rfl
          · have : min (32 * ((0 : Nat) : Int)).toNat 64 = 0 := rfl
            rw [this, show ((l2[0].toNat : Int) * (2 : Int) ^ (0 : Nat)) = (l2[0].toNat : Int) by omega, hu]
            have e : l2.take (0 + 1) = [l2[0]] := by rw [List.take_add_one, hg]; rfl
            rw [e, List.take_zero]
            have := or_zero l2[0].toNat hx
            simpa [val] using this
          · have : min (32 * ((1 : Nat) : Int)).toNat 64 = 32 := rfl
            have hx0 : l2[0].toNat < 4294967296 := l2[0].toNat_lt
            rw [this, show ((l2[1].toNat : Int) * (2 : Int) ^ (32 : Nat)) = (l2[1].toNat : Int) * 4294967296 by omega, wrap_u64, Int.emod_eq_of_lt (by omega) (by omega)]
            have e0 : l2.take 1 = [l2[0]] := by rw [show (1 : Nat) = 0 + 1 from rfl, List.take_add_one, List.getElem?_eq_getElem (by omega)]; rfl
            have e : l2.take (1 + 1) = [l2[0], l2[1]] := by rw [List.take_add_one, hg, e0]; rfl
            rw [e, e0]
            have := or_high l2[0].toNat l2[1].toNat hx0 hx
            have e3 : val [l2[0]] = l2[0].toNat := by simp [val]
            rw [e3, this, val_two]
            omega
        simp only [go_sem, W_cond, W_block, g1, g2, g3, g4, g5, g6, g7, hlt', hi0, lsl_get hg, hw, hw2, hw3, hu, hsh]
        exact ⟨i + 1, ⟨by omega, rfl, rfl⟩, by omega⟩
      · have hlt' : ¬ (i : Int) < (l2.length : Int) := by omega
        have hi : i = l2.length := by omega
        subst hi
        rw [List.take_length] at g6
        have hv : val l2 < 18446744073709551616 := by
          have : ∀ l : List UInt32, l.length ≤ 2 → val l < 18446744073709551616 := by
            intro l hl
            match l with
            | [] => simp [val]
            | [x] => have := x.toNat_lt; simp [val]; omega
            | [x, y] => have := x.toNat_lt; have := y.toNat_lt; simp [val]; omega
            | _ :: _ :: _ :: _ => simp at hl
          exact this l2 (by omega)
        have h2' : ¬ 2 < l2.length := by omega
        cases n2
        · by_cases hq : (val l2 : Int) < 9223372036854775808
          · have hq' : val l2 < 9223372036854775808 := by omega
            have hw : IntKind.i64.wrap (val l2 : Int) = (val l2 : Int) := wrap64_id _ (by omega) (by omega)
            simp only [go_sem, W_cond, W_block, g1, g2, g3, g4, g5, g6, g7, hlt', hq, hw, nint', h2', hq', vI, Option.isSome_some]
          · have hq' : ¬ val l2 < 9223372036854775808 := by omega
            simp only [go_sem, W_cond, W_block, g1, g2, g3, g4, g5, g6, g7, hlt', hq, nint', h2', hq', vI, Option.isSome_none]
        · by_cases hq : (val l2 : Int) ≤ 9223372036854775808
          · have hq' : val l2 ≤ 9223372036854775808 := by omega
            have hw : IntKind.i64.wrap (IntKind.u64.wrap (0 - (val l2 : Int))) = -(val l2 : Int) := by
              rw [wrap_u64, IntKind.wrap_i64]; omega
            simp only [go_sem, W_cond, W_block, g1, g2, g3, g4, g5, g6, g7, hlt', hq, hw, nint', h2', hq', vI, Option.isSome_some]
          · have hq' : ¬ val l2 ≤ 9223372036854775808 := by omega
            simp only [go_sem, W_cond, W_block, g1, g2, g3, g4, g5, g6, g7, hlt', hq, nint', h2', hq', vI, Option.isSome_none]
end Go.Proofs.Ythbbollhojdjdaa
