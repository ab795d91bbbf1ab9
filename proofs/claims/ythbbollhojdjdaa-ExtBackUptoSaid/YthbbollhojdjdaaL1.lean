/- WALKS: slices.Backward over terms, as the library's range over a function. Conditions: none. -/
import Derived.RangeFuncNested
import Derived.RangeFuncBox
import Derived.RangeFuncBound
import Derived.RangeFuncCalls
import Derived.RangeFuncLeaves
import Derived.Shelf.Abstract
import Derived.WalkKit
import Derived.OwnWalkIn
import Derived.TacticsInMore
import Derived.LoopNIn
import Derived.LoopIn
import Derived.Test.YthbbollhojdjdaaProg
namespace Go.Proofs.Ythbbollhojdjdaa
open Go.RowKit Go.Shelf
attribute [local go_sem] Oper.semAt_some

/-- What lay below n₀, and block Bs, lies as it lay. -/
def KpB (n₀ Bs : Nat) (A B : World) : Prop := Below n₀ A B ∧ B.heap[Bs]? = A.heap[Bs]?
theorem KpB.refl (n₀ Bs : Nat) (W : World) : KpB n₀ Bs W W := ⟨Below.refl _ _, rfl⟩
theorem KpB.trans {n₀ Bs : Nat} {A B C : World} (h : KpB n₀ Bs A B) (k : KpB n₀ Bs B C) : KpB n₀ Bs A C := ⟨h.1.trans k.1, k.2.trans h.2⟩
theorem KpB.box {n₀ Bs : Nat} {A B : World} (h : KpB n₀ Bs A B) : B.cell? ⟨Bs, 0, none⟩ = A.cell? ⟨Bs, 0, none⟩ := by simp only [World.cell?, h.2]

/-- The places from len - 1 down to k. -/
def down (len k : Nat) : List Nat := (List.range' k (len - k)).reverse
theorem down_all (len : Nat) : down len len = [] := by simp [down]
theorem down_snoc {len k : Nat} (h : k < len) : down len k = down len (k + 1) ++ [k] := by
  unfold down
  have : len - k = (len - (k + 1)) + 1 := by omega
  rw [this, List.range'_succ, List.reverse_cons]

set_option maxRecDepth 100000 in
set_option maxHeartbeats 2000000 in
theorem back1_in (F : Fence) (n : Nat) (h95 : F.fn 95) (hro : F.round = none) (hn : 1 ≤ n) (l Bs n₀ b off len cap : Nat) (f : Nat → Nat → Value) (hreach : len * 8 ≤ 140737488351232) (hb : 0 < len → b < n₀) (J Jx : List Nat → World → Prop)
    (hY : ∀ pre x W, J pre W → pre.length < len → YieldAt F (n - 1) Try.prog l #[.int .i64 (x : Nat), .agg #[f x 0, f x 1, f x 2, f x 3, f x 4, f x 5]] W fun e W' =>
      (e = .returned (.bool true) ∧ J (pre ++ [x]) W' ∧ KpB n₀ Bs W W') ∨ (e = .returned (.bool false) ∧ Jx (pre ++ [x]) W'))
    (W : World) (hBs : W.cell? ⟨Bs, 0, none⟩ = some (.slice (some ⟨b, off, none⟩) len cap)) (hc : ∀ i j, i < len → j < 6 → W.cell? ⟨b, off + (i * 6 + j), none⟩ = some (f i j)) (h0 : J [] W) :
    CallsIn F n Try.prog 95 #[.func (.yield l) #[] #[], .pointer (some ⟨Bs, 0, none⟩)] W fun e W' => (∃ v, e = .returned v) ∧ ((∃ ys, ys = down len 0 ∧ J ys W') ∨ (∃ pre, True ∧ Jx pre W')) := by
  refine callsIn_of_wp Try.func95 rfl h95 ?_ hro
  simp only [Try.ntmps95, List.size_toArray, List.length_cons, List.length_nil, Nat.reduceAdd, Nat.reduceSub, Array.replicate_succ, Array.replicate_zero, List.push_toArray, List.append_toArray, List.nil_append, List.cons_append]
  gi_wp2
  gi_loopw [3] (fun i wr => ∃ k : Nat, k ≤ len ∧ i = .int .i64 ((k : Int) - 1) ∧ J (down len k) wr ∧ KpB n₀ Bs W wr)
    (fun i _ => (intOf i + 1).toNat)
  case atStart => exact ⟨len, Nat.le_refl _, rfl, by rw [down_all]; exact h0, KpB.refl _ _ _⟩
  case round =>
    obtain ⟨k, hk, rfl, hJs, hnx⟩ := hrel
    have hcs : wr.cell? ⟨Bs, 0, none⟩ = some (.slice (some ⟨b, off, none⟩) len cap) := hnx.box.trans hBs
    cases k with
    | zero =>
      gi_wp2
      go_end0
      exact ⟨⟨_, rfl⟩, .inl ⟨_, rfl, hJs⟩⟩
    | succ k =>
      have hk1 : ((k + 1 : Nat) : Int) - 1 = (k : Int) := by omega
      rw [hk1]
      obtain ⟨fn, tmps, assign, body, hy, hR⟩ := hY _ k wr hJs (by simp [down]; omega)
      have hlt : (k : Int) < (len : Int) := by omega
      have hcx := fun j (hj : j < 6) => (hnx.1.cell (p := ⟨b, off + (k * 6 + j), none⟩) (hb (by omega))).trans (hc k j (by omega) hj)
      have c0 := hcx 0 (by omega)
      have c1 := hcx 1 (by omega)
      have c2 := hcx 2 (by omega)
      have c3 := hcx 3 (by omega)
      have c4 := hcx 4 (by omega)
      have c5 := hcx 5 (by omega)
      clear hcx
      simp only [Nat.add_zero] at c0
      rw [← Nat.add_assoc] at c1 c2 c3 c4 c5
      gi_wp2
      refine hR.mono ?_
      rintro e W3 (⟨rfl, hJ3, hk3⟩ | ⟨rfl, hJx3⟩)
      · gi_wp2
        go_roundw
        case rel => exact ⟨k, by omega, rfl, by rw [down_snoc (by omega)]; exact hJ3, hnx.trans hk3⟩
        case measure => simp [intOf]
      · gi_wp2
        refine bodyPost_ret (results_none rfl _ _ _) rfl ?_
        exact ⟨⟨_, rfl⟩, .inr ⟨_, trivial, hJx3⟩⟩

set_option maxRecDepth 100000 in
set_option maxHeartbeats 1000000 in
theorem back1_nil_in (F : Fence) (n : Nat) (h95 : F.fn 95) (hro : F.round = none) (l Bs : Nat) (J : List Nat → World → Prop) (W : World) (ad : Option Addr) (cp : Nat) (hBs : W.cell? ⟨Bs, 0, none⟩ = some (.slice ad 0 cp)) (h0 : J [] W) :
    CallsIn F n Try.prog 95 #[.func (.yield l) #[] #[], .pointer (some ⟨Bs, 0, none⟩)] W fun e W' => (∃ v, e = .returned v) ∧ J [] W' := by
  refine callsIn_of_wp Try.func95 rfl h95 ?_ hro
  simp only [Try.ntmps95, List.size_toArray, List.length_cons, List.length_nil, Nat.reduceAdd, Nat.reduceSub, Array.replicate_succ, Array.replicate_zero, List.push_toArray, List.append_toArray, List.nil_append, List.cons_append]
  gi_wp2
  gi_loopw [3] (fun i wr => i = .int .i64 (-1) ∧ J [] wr) (fun _ _ => 0)
  case atStart => exact ⟨rfl, h0⟩
  case round =>
    obtain ⟨rfl, hJs⟩ := hrel
    gi_wp2
    go_end0
    exact ⟨⟨_, rfl⟩, hJs⟩

set_option maxHeartbeats 1000000 in
theorem back_in (F : Fence) (n : Nat) (h93 : F.fn 93) (hro : F.round = none) (a : Option Addr) (len cap : Nat) (w : World) :
    CallsIn F n Try.prog 93 #[.slice a len cap] w fun e w' => e = .returned (.func (.func 95) #[] #[.pointer (some ⟨w.heap.size, 0, none⟩)]) ∧ w' = w.alloc (.cells #[.slice a len cap] 26) := by
  refine callsIn_of_wp Try.func93 rfl h93 ?_ hro
  simp only [Try.ntmps93, List.size_toArray, List.length_cons, List.length_nil, Nat.reduceAdd, Nat.reduceSub, Array.replicate_succ, Array.replicate_zero, List.push_toArray, List.append_toArray, List.nil_append, List.cons_append]
  gi_wp2
  go_ret
  exact ⟨rfl, rfl⟩

/-- A slice of parts of six cells each, in a block below n₀; or it is nil and there are none. -/
def Sixes (n₀ : Nat) (W : World) (sv : Value) (len : Nat) (f : Nat → Nat → Value) : Prop :=
  (∃ ad cp, sv = .slice ad 0 cp ∧ len = 0) ∨ ∃ b off cap, sv = .slice (some ⟨b, off, none⟩) len cap ∧ (0 < len → b < n₀) ∧ ∀ i j, i < len → j < 6 → W.cell? ⟨b, off + (i * 6 + j), none⟩ = some (f i j)
theorem Sixes.below {n₀ : Nat} {A B : World} (h : Below n₀ A B) {sv : Value} {len : Nat} {f : Nat → Nat → Value} : Sixes n₀ A sv len f → Sixes n₀ B sv len f
  | .inl e => .inl e
  | .inr ⟨b, off, cap, e, hb, hc⟩ => .inr ⟨b, off, cap, e, hb, fun i j hi hj => (h.cell (p := ⟨b, off + (i * 6 + j), none⟩) (hb (by omega))).trans (hc i j hi hj)⟩

def sixV (f : Nat → Nat → Value) (x : Nat) : Value := .agg #[f x 0, f x 1, f x 2, f x 3, f x 4, f x 5]

theorem back_stops (F : Fence) (n : Nat) (h95 : F.fn 95) (hro : F.round = none) (hn : 1 ≤ n) (Bs n₀ : Nat) (sv : Value) (len : Nat) (f : Nat → Nat → Value) (hreach : len * 8 ≤ 140737488351232) (w : World) (hBs : Bs < w.heap.size) (hn₀ : n₀ ≤ w.heap.size) 
    (hc : w.cell? ⟨Bs, 0, none⟩ = some sv) (hI : Sixes n₀ w sv len f) :
    SeqStopsK F n Try.prog 95 #[.pointer (some ⟨Bs, 0, none⟩)] (fun x : Nat => #[Value.int .i64 (x : Nat), .agg #[f x 0, f x 1, f x 2, f x 3, f x 4, f x 5]]) (KpB n₀ Bs) (fun ys => ys = down len 0) (fun _ => True) len w := fun l J Jx W hW _ _ hY h0 => by
  have hc' := (hW.cell (p := ⟨Bs, 0, none⟩) hBs).trans hc
  rcases hI.below (hW.mono hn₀) with ⟨ad, cp, rfl, rfl⟩ | ⟨b, off, cap, rfl, hb, hcs⟩
  · exact (back1_nil_in F n h95 hro l Bs J W ad cp hc' h0).mono fun e W' ⟨he, hj⟩ => ⟨he, .inl ⟨_, rfl, hj⟩⟩
  · exact back1_in F n h95 hro hn l Bs n₀ b off len cap f hreach hb J Jx hY W hc' hcs h0
end Go.Proofs.Ythbbollhojdjdaa
