/- WALKS, 1: bytes put behind bytes. Conditions: lengths below the greatest. -/
import Derived.Test.YthbbollhojdjdaaSb
namespace Go.Proofs.Ythbbollhojdjdaa
open Go.Ab
set_option maxRecDepth 100000
set_option linter.unusedSimpArgs false
set_option linter.unusedVariables false

def bsl (b : List UInt8) : List (List AV) := b.map fun x => [ofByte x]
def bce (b : List UInt8) : List AV := b.map ofByte
@[go_sem] theorem bsl_length (b : List UInt8) : (bsl b).length = b.length := by simp [bsl]
@[go_sem] theorem bce_length (b : List UInt8) : (bce b).length = b.length := by simp [bce]
@[go_sem] theorem bsl_flatten (b : List UInt8) : (bsl b).flatten = bce b := by
  induction b with
  | nil => rfl
  | cons x l ih => simp only [bsl, bce, List.map_cons, List.flatten_cons] at *; rw [ih]; rfl
@[go_sem] theorem bce_one (b : List UInt8) : (bce b).all one = true := by simp [bce, ofByte, one]
@[go_sem] theorem bce_nfs (b : List UInt8) : nf.nfs (bce b) = true := by
  induction b with
  | nil => rfl
  | cons x l ih => simp only [bce, List.map_cons, nf.nfs, Bool.and_eq_true] at *; exact ⟨rfl, ih⟩
theorem bce_append (b c : List UInt8) : bce (b ++ c) = bce b ++ bce c := by simp [bce]
theorem bce_cons (x : UInt8) (c : List UInt8) : bce (x :: c) = ofByte x :: bce c := rfl
theorem bce_nil : bce [] = [] := rfl
theorem bsl_nil : bsl [] = [] := rfl
theorem bsl_cons (x : UInt8) (c : List UInt8) : bsl (x :: c) = [ofByte x] :: bsl c := rfl

@[go_sem] theorem nfs_append (a b : List AV) : nf.nfs (a ++ b) = (nf.nfs a && nf.nfs b) := by
  induction a with
  | nil => simp [nf.nfs]
  | cons x l ih => simp [nf.nfs, ih, Bool.and_assoc]
attribute [go_sem] IntKind.bits Int.reducePow List.not_mem_nil
@[go_sem] theorem min8_64 : min 8 64 = 8 := rfl
@[go_sem] theorem min16_64 : min 16 64 = 16 := rfl
@[go_sem] theorem min24_64 : min 24 64 = 24 := rfl
@[go_sem] theorem min32_64 : min 32 64 = 32 := rfl
@[go_sem] theorem min63_64 : min 63 64 = 63 := rfl
@[go_sem] theorem min8_32 : min 8 32 = 8 := rfl
@[go_sem] theorem min16_32 : min 16 32 = 16 := rfl
@[go_sem] theorem min24_32 : min 24 32 = 24 := rfl
@[go_sem] theorem nf_ofByte (x : UInt8) : nf (ofByte x) = true := rfl
@[go_sem] theorem cellsOf_ofByte (x : UInt8) : cellsOf (ofByte x) = some [ofByte x] := rfl
@[go_sem] theorem one_ofByte (x : UInt8) : one (ofByte x) = true := rfl
@[go_sem] theorem namesA_ofByte (x : UInt8) : namesA (ofByte x) = [] := rfl
attribute [go_sem] List.replicate_succ List.replicate_zero List.flatten_cons List.flatten_nil
def u8i (z : Int) : UInt8 := UInt8.ofNat (IntKind.u8.wrap z).toNat
theorem toByte (z : Int) : AV.int .u8 (IntKind.u8.wrap z) = ofByte (u8i z) := by
  unfold ofByte u8i
  rw [IntKind.wrap_u8]
  congr 1
  have : (z % 256).toNat < 256 := by omega
  simp only [UInt8.toNat_ofNat']
  omega

/-- Bytes behind which others are put: an own array; or a slice without room behind it. -/
def bArg : Option (Bool × Nat) → List UInt8 → AV
  | none, b => .arr (.arg 0) 0 b.length 1
  | some (n, sz), b => .sl n sz (bsl b) true
def bOb : Option (Bool × Nat) → List UInt8 → Option Ob
  | none, b => some ⟨bce b, true⟩
  | some _, _ => none
def bOk : Option (Bool × Nat) → Prop
  | none => True
  | some (n, sz) => n = true ∨ sz = 1

theorem put_does (a : Option (Bool × Nat)) (ha : bOk a) (b x : List UInt8) (n f : Bool) (hx : x ≠ []) (h : (b.length + x.length : Nat) ≤ 140737488355328) :
    FDoes Try.prog 47 [bArg a b, .sl n 1 (bsl x) f] [bOb a b, none] [.ex 0 (b.length + x.length) 1] [none, none] (some ⟨bce (b ++ x), true⟩) := by
  refine FDoes.of (E := env) ttok mixed Try.func47 (by kernel_rfl) rfl (by kernel_rfl) (rl := [.tmp 4]) rfl (Nat.le_of_ble_eq_true rfl) true ?_
  have hx' : ¬ x.length = 0 := by simpa using hx
  cases a with
  | none => simp only [go_sem, W_cond, W_block, h, bce_append, bArg, bOb]
  | some p =>
    obtain ⟨m, sz⟩ := p
    have hc : m = true ∨ sz = 1 := ha
    simp only [go_sem, W_cond, W_block, h, bce_append, bArg, bOb, hx', hc]
/-- Four bytes of a number. -/
def be4 (v : Int) : List UInt8 := [u8i (v.fdiv 16777216), u8i (v.fdiv 65536), u8i (v.fdiv 256), u8i v]

theorem be4_length (v : Int) : (be4 v).length = 4 := rfl


theorem word_does (a : Option (Bool × Nat)) (ha : bOk a) (b : List UInt8) (v : Int) (h : (b.length + 4 : Nat) ≤ 140737488355328) :
    FDoes Try.prog 49 [bArg a b, .int .i64 v] [bOb a b, none] [.ex 0 (b.length + 4) 1] [none, none] (some ⟨bce (b ++ be4 v), true⟩) := by
  refine FDoes.of (E := env) ttok mixed Try.func49 (by kernel_rfl) rfl (by kernel_rfl) (rl := [.tmp 4]) rfl (Nat.le_of_ble_eq_true rfl) true ?_
  cases a with
  | none =>
    simp only [go_sem, W_cond, W_block, bArg, bOb, toByte]

    refine WCallR_does (put_does none ha b (be4 v) false true (by simp [be4]) h) (by rfl) (by rfl) ?_
    simp only [go_sem, W_cond, W_block, be4_length]
  | some p =>
    obtain ⟨m, sz⟩ := p
    simp only [go_sem, W_cond, W_block, bArg, bOb, toByte]
    refine WCallR_does (put_does (some (m, sz)) ha b (be4 v) false true (by simp [be4]) h) (by rfl) (by rfl) ?_
    simp only [go_sem, W_cond, W_block, be4_length]
end Go.Proofs.Ythbbollhojdjdaa
