/- THE ROWS' STEP: from what the abstract machine says of a call to what a row asks. Conditions: none. -/
import Derived.Test.YthbbollhojdjdaaRows
import Derived.Test.YthbbollhojdjdaaWL
import Derived.WalkKit
import Derived.ProofKit
import Derived.OpenShut
import Derived.ShutString
import Derived.ChangeOld
import Derived.Below
namespace Go.Proofs.Ythbbollhojdjdaa
open Go.ChangeShapes Go.WideShapes Go.ChangeAt Go.RowKit Go.Ab
open Go.ChangeMaps (open_string shut_string)
set_option linter.unusedVariables false

/-- All that lies in memory. -/
def allS (w : World) : SM := fun b => w.heap[b]?

theorem allS_cell {w : World} {b o : Nat} {v : Value} (h : w.cell? ⟨b, o, none⟩ = some v) : scell (allS w) b o = some v := by
  unfold World.cell? at h
  unfold scell allS
  simp only at h
  cases hb : w.heap[b]? with
  | none => rw [hb] at h; cases h
  | some ob =>
    rw [hb] at h
    cases ob with
    | cells c e f => simpa using h
    | _ => cases h

theorem HPof_none (objs : List (Option Ob)) (h : ∀ k : Nat, (objs[k]?).join = none) (nm : Nm) : HPof objs nm = none := by
  unfold HPof
  split
  · exact h _
  · rfl

/-- A law that is handed values alone. -/
theorem law_calls {f : FuncId} {args : List AV} {objs objs' : List (Option Ob)} (ho : ∀ k : Nat, (objs[k]?).join = none) (h : FDoes Try.prog f args objs [.v (.bool true)] objs' none) (w : World) (vs : List Value) (hl : vs.length = args.length)
    (hv : ∀ j (h1 : j < args.length) (h2 : j < vs.length), V (allS w) args[j] vs[j]) : Calls Try.prog f vs.toArray w fun e w' => e = .returned (.bool true) ∧ Below w.heap.size w w' := by
  refine (h.2 w (allS w) (fun _ => none) vs hl (fun j h1 h2 => .v (hv j h1 h2)) (fun k ob hk => by rw [ho k] at hk; cases hk)
    ⟨fun b o hb => hb, fun nm ob hn => (by rw [HPof_none objs ho] at hn; cases hn), fun nm nm' ob ob' l l' hn => (by rw [HPof_none objs ho] at hn; cases hn)⟩ (fun _ _ _ => rfl)).mono ?_
  rintro e w' ⟨rs, ob', ex, S', ι', v, ⟨rfl, _, _⟩, rfl, ⟨ws, k1, k2, k3⟩, _, _, _, _, hfr, _⟩
  match ws, k1 with
  | [x], _ =>
    have := k2 0 (by simp) (by simp)
    simp only [List.getElem_cons_zero] at this
    cases this with
    | v hx =>
      cases hx
      refine ⟨by rw [k3]; rfl, hfr.os, hfr.tape, hfr.output, hfr.size, fun b hb => hfr.block b hb ?_⟩
      rintro ⟨k, ob, l, hk, _⟩
      rw [ho k] at hk; cases hk

/-- A slice of integers that came in: its cells, its elements. -/
def IsRow (k : IntKind) (w : World) (a : Option Addr) (len cap : Nat) (zs : List Int) : Prop :=
  (a = none ∧ len = 0 ∧ cap = 0 ∧ zs = []) ∨
  ∃ b o, a = some ⟨b, o, none⟩ ∧ len ≤ cap ∧ cap ≤ maxLen ∧ zs.length = cap ∧ (∀ i, i < zs.length → w.cell? ⟨b, o + i, none⟩ = some (.int k (zs.getD i 0))) ∧ ∀ n ∈ zs, (Lit.int k n).wf = true

/-- Bytes that came in, as the abstract machine's. -/
theorem bytes_in {w : World} {a : Option Addr} {len cap : Nat} {zs : List Int} (h : IsRow .u8 w a len cap zs) : ∃ (bn : Bool) (b : List UInt8), (bn = true → b = []) ∧ b.length = len ∧ V (allS w) (.sl bn 1 (bsl b) false) (.slice a len cap) := by
  rcases h with ⟨rfl, rfl, rfl, rfl⟩ | ⟨b, o, rfl, h1, h2, h3, h4, h5⟩
  · exact ⟨true, [], fun _ => rfl, rfl, V.slnil 1 false⟩
  · have hlen : ((zs.take len).map fun z => UInt8.ofNat z.toNat).length = len := by simp; omega
    refine ⟨false, (zs.take len).map fun z => UInt8.ofNat z.toNat, fun h => (by cases h), hlen, ?_⟩
    have key := V.sl (S := allS w) 1 (bsl ((zs.take len).map fun z => UInt8.ofNat z.toNat)) false b o cap (fun i _ => .int .u8 (zs.getD i 0)) (by rw [bsl_length, hlen]; exact h1) (fun h => by cases h)
      (fun i hi => by simp [bsl]) (fun i j hi hj => ?_) (fun i j hi hj => ?_)
    · rw [bsl_length, hlen] at key; exact key none (fun _ => rfl)
    · rw [bsl_length, hlen] at hi
      have : j = 0 := by omega
      subst this
      rw [Nat.mul_one, Nat.add_zero]
      exact allS_cell (h4 i (by omega))
    · rw [bsl_length, hlen] at hi
      have hz : i < zs.length := by omega
      have e : (bsl ((zs.take len).map fun z => UInt8.ofNat z.toNat))[i] = [ofByte (UInt8.ofNat (zs[i]).toNat)] := by simp [bsl]
      have hj0 : j = 0 := by rw [e] at hj; simpa using hj
      subst hj0
      have hw := h5 zs[i] (List.getElem_mem hz)
      have e2 : zs.getD i 0 = zs[i] := by simp [hz]
      have e3 : (bsl ((zs.take len).map fun z => UInt8.ofNat z.toNat))[i][0] = .int .u8 zs[i] := by
        simp only [e, List.getElem_cons_zero, ofByte]
        have hb : 0 ≤ zs[i] ∧ zs[i] ≤ 255 := by simpa [Lit.wf, IntKind.min, IntKind.max, IntKind.signed, IntKind.bits] using hw
        congr 1
        rw [UInt8.toNat_ofNat']
        omega
      rw [e3, e2]
      exact .int _ _
end Go.Proofs.Ythbbollhojdjdaa
