/- THE ABSTRACT MACHINE, 16: lemmas for its use: the table of types; slots and objects; wraps. Conditions: none. -/
import Derived.Test.YthbbollhojdjdaaAbFn
import Derived.KernelRfl
namespace Go.Ab

inductive VL (S : SM) : List AV → List Value → Prop
  | nil : VL S [] []
  | cons {a : AV} {v : Value} {as : List AV} {vs : List Value} : V S a v → VL S as vs → VL S (a :: as) (v :: vs)

theorem VL.length {S : SM} {as : List AV} {vs : List Value} (h : VL S as vs) : as.length = vs.length := by
  induction h with
  | nil => rfl
  | cons _ _ ih => simp [ih]

theorem VL.get {S : SM} {as : List AV} {vs : List Value} (h : VL S as vs) : ∀ i (hi : i < as.length) (hj : i < vs.length), V S as[i] vs[i] := by
  induction h with
  | nil => intro i hi; simp at hi
  | cons h1 _ ih =>
    intro i hi hj
    cases i with
    | zero => exact h1
    | succ i => exact ih i (by simpa using hi) (by simpa using hj)

theorem V.aggL {S : SM} {as : List AV} {vs : List Value} (h : VL S as vs) : V S (.agg as) (.agg vs.toArray) := .agg as vs h.length h.get

theorem V.str0 (S : SM) : V S (.str []) (.string ⟨#[]⟩) := .str []

theorem TIok.of {P : Program} {t : TypeId} {i : TI} {d : TypeDesc} {z : Value} (hu : P.underlying t = some d) (hd : descOk d i.desc) (hi : (P.info? t).map (fun i => (i.zero, i.size, i.bytes)) = some (some z, i.size, i.bytes)) (hz : z.cells.size = i.size)
    (hv : i.zero = .undef ∨ ∀ S, V S i.zero z) (hf : ∀ F, d = .struct F → ∀ f ∈ F.toList, (P.info? f.type).isSome = true) : TIok P t i := by
  rw [Option.map_eq_some_iff] at hi
  obtain ⟨info, h1, h2⟩ := hi
  simp only [Prod.mk.injEq] at h2
  obtain ⟨g1, g2, g3⟩ := h2
  exact ⟨⟨d, hu, hd⟩, ⟨info, z, h1, g2, g3, g1, hz, hv⟩, fun F hF => hf F (by rw [hu] at hF; cases hF; rfl)⟩

theorem upd_same (tm : Nat → AV) (d : Nat) (v : AV) : upd tm d v d = v := by simp [upd]
theorem upd_ne (tm : Nat → AV) (d : Nat) (v : AV) (t : Nat) (h : t ≠ d) : upd tm d v t = tm t := by simp [upd, h]
theorem updH_same (hp : HP) (n : Nm) (o : Option Ob) : updH hp n o n = o := by simp [updH]
theorem updH_ne (hp : HP) (n : Nm) (o : Option Ob) (m : Nm) (h : m ≠ n) : updH hp n o m = hp m := by simp [updH, h]

theorem wrap64_id (n : Int) (h1 : -9223372036854775808 ≤ n) (h2 : n ≤ 9223372036854775807) : IntKind.i64.wrap n = n := by rw [IntKind.wrap_i64]; omega

end Go.Ab
