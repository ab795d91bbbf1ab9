/- THE ABSTRACT MACHINE, 3: each operation does in Go's memory what it does to the abstract state. Conditions: the table of types is the program's (TTok). -/
import Derived.Test.YthbbollhojdjdaaAbEval
import Derived.Laws.Strings
import Derived.Laws.BytesArg
import Derived.Laws.BytesString
namespace Go.Ab

def isAggD : TypeDesc → Bool
  | .struct _ | .array _ _ => true
  | _ => false

/-- A type of the program, and what the table says of it. -/
def descOk (d : TypeDesc) : TD → Prop
  | .bool => d = .bool
  | .int k => d = .int k
  | .str => d = .string
  | .ptr e => d = .pointer e
  | .slice e => d = .slice e
  | .array n e => d = .array n e
  | .struct fs => ∃ F, d = .struct F ∧ F.toList.map (fun f => (f.offset, f.type)) = fs
  | .other => isAggD d = false

theorem descOk.agg {d : TypeDesc} {t : TD} (h : descOk d t) : isAggD d = t.isAgg := by
  cases t <;> simp only [descOk] at h <;> first
    | (subst h; rfl)
    | (obtain ⟨F, rfl, _⟩ := h; rfl)
    | exact h

structure TIok (P : Program) (t : TypeId) (i : TI) : Prop where
  under : ∃ d, P.underlying t = some d ∧ descOk d i.desc
  info : ∃ info z, P.info? t = some info ∧ info.size = i.size ∧ info.bytes = i.bytes ∧ info.zero = some z ∧ z.cells.size = i.size ∧ (i.zero = .undef ∨ ∀ S, V S i.zero z)
  fields : ∀ F, P.underlying t = some (.struct F) → ∀ f ∈ F.toList, (P.info? f.type).isSome = true

def TTok (P : Program) (tt : TypeId → Option TI) : Prop := ∀ t i, tt t = some i → TIok P t i

/-- A block of an object that may be written. -/
def Owned (ι : NM) (hp : HP) (b : Nat) : Prop := ∃ nm ob l, hp nm = some ob ∧ ob.live = true ∧ ι nm = some l ∧ l.blk = b

/-- How an operation moves the memory and what is said of it. -/
structure Mv (fresh : Nm) (S : SM) (ι : NM) (hp : HP) (w : World) (S' : SM) (ι' : NM) (hp' : HP) (w' : World) : Prop where
  sle : SLe S S'
  ile : ILe ι ι'
  hr : HR S' ι' hp' w'
  os : w'.os = w.os
  tape : w'.tape = w.tape
  output : w'.output = w.output
  size : w.heap.size ≤ w'.heap.size
  frame : ∀ b, b < w.heap.size → ¬ Owned ι hp b → w'.heap[b]? = w.heap[b]?
  snew : ∀ b o, S' b = some o → S b = some o ∨ w.heap.size ≤ b ∨ Owned ι hp b
  own : ∀ b, Owned ι' hp' b → w.heap.size ≤ b ∨ Owned ι hp b
  dom : ∀ nm, ι' nm ≠ none → ι nm ≠ none ∨ nm = fresh

theorem Mv.refl {fresh : Nm} {S : SM} {ι : NM} {hp : HP} {w : World} (h : HR S ι hp w) : Mv fresh S ι hp w S ι hp w :=
  ⟨SLe.refl _, ILe.refl _, h, rfl, rfl, rfl, Nat.le_refl _, fun _ _ _ => rfl, fun _ _ h => .inl h, fun _ h => .inr h, fun _ h => .inl h⟩

theorem Mv.trans {fresh : Nm} {S S1 S2 : SM} {ι ι1 ι2 : NM} {hp hp1 hp2 : HP} {w w1 w2 : World} (h : Mv fresh S ι hp w S1 ι1 hp1 w1) (k : Mv fresh S1 ι1 hp1 w1 S2 ι2 hp2 w2) :
    Mv fresh S ι hp w S2 ι2 hp2 w2 := by
  have up : ∀ b, w1.heap.size ≤ b ∨ Owned ι1 hp1 b → w.heap.size ≤ b ∨ Owned ι hp b := by
    intro b hb
    rcases hb with hb | hb
    · exact .inl (Nat.le_trans h.size hb)
    · exact h.own b hb
  refine ⟨h.sle.trans k.sle, h.ile.trans k.ile, k.hr, k.os.trans h.os, k.tape.trans h.tape, k.output.trans h.output, Nat.le_trans h.size k.size, ?_, ?_, fun b hb => up b (k.own b hb), ?_⟩
  · intro b hb ho
    rw [k.frame b (Nat.lt_of_lt_of_le hb h.size) (fun hh => by
      rcases h.own b hh with q | q
      · omega
      · exact ho q)]
    exact h.frame b hb ho
  · intro b o hs
    rcases k.snew b o hs with q | q
    · exact h.snew b o q
    · exact .inr (up b q)
  · intro nm hn
    rcases k.dom nm hn with q | q
    · exact h.dom nm q
    · exact .inr q

/-- The same memory, another count of draws. -/
theorem Mv.drew {fresh : Nm} {S : SM} {ι : NM} {hp : HP} {w : World} (h : HR S ι hp w) : Mv fresh S ι hp w S ι hp w.drew :=
  ⟨SLe.refl _, ILe.refl _, h.same rfl, rfl, rfl, rfl, Nat.le_refl _, fun _ _ _ => rfl, fun _ _ h => .inl h, fun _ h => .inr h, fun _ h => .inl h⟩

theorem Mv.alloc {S : SM} {ι : NM} {hp : HP} {w : World} (h : HR S ι hp w) (nm : Nm) (cs : List AV) (c : Array Value) (e : TypeId)
    (hn : ι nm = none) (hl : cs.length ≤ c.size) (hc : ∀ i (hi : i < cs.length) (hj : i < c.size), VT S ι cs[i] c[i]) :
    Mv nm S ι hp w S (updN ι nm ⟨w.heap.size, c.size⟩) (updH hp nm (some ⟨cs, true⟩)) (w.alloc (.cells c e)) := by
  refine ⟨SLe.refl _, updN_le hn, h.alloc nm cs c e hn hl hc, rfl, rfl, rfl, by simp, fun b hb _ => heap_alloc_old w _ b hb, fun _ _ hs => .inl hs, ?_, ?_⟩
  · rintro b ⟨n, ob, l, h1, h2, h3, rfl⟩
    by_cases hne : n = nm
    · subst hne; simp only [updN, if_true, Option.some.injEq] at h3; subst h3; exact .inl (Nat.le_refl _)
    · simp only [updH, updN, if_neg hne] at h1 h3; exact .inr ⟨n, ob, l, h1, h2, h3, rfl⟩
  · intro n hh
    by_cases hne : n = nm
    · exact .inr hne
    · simp only [updN, if_neg hne] at hh; exact .inl hh

theorem Mv.store {fresh : Nm} {S : SM} {ι : NM} {hp : HP} {w : World} (h : HR S ι hp w) (nm : Nm) (ob : Ob) (hob : hp nm = some ob) (hm : ob.live = true)
    (l : Loc) (hl : ι nm = some l) (cs' : List AV) (c' : Array Value) (hs : c'.size = l.ext) (hle : cs'.length ≤ c'.size)
    (hc : ∀ i (hi : i < cs'.length) (hj : i < c'.size), VT S ι cs'[i] c'[i]) :
    Mv fresh S ι hp w S ι (updH hp nm (some ⟨cs', true⟩)) (w.setRow l.blk c') := by
  refine ⟨SLe.refl _, ILe.refl _, h.store nm ob hob hm l hl cs' c' hs hle hc, rfl, rfl, rfl, by simp [World.setRow], fun b hb ho => ?_, fun _ _ hs => .inl hs, ?_, fun _ h => .inl h⟩
  · exact setRow_other w _ _ _ (fun e => ho ⟨nm, ob, l, hob, hm, hl, e.symm⟩)
  · rintro b ⟨n, ob', l', h1, h2, h3, rfl⟩
    by_cases hne : n = nm
    · subst hne; rw [hl] at h3; cases h3; exact .inr ⟨n, ob, l, hob, hm, hl, rfl⟩
    · simp only [updH, if_neg hne] at h1; exact .inr ⟨n, ob', l', h1, h2, h3, rfl⟩

theorem Mv.keep {fresh : Nm} {S : SM} {ι : NM} {hp : HP} {w : World} (h : HR S ι hp w) (o : Obj) :
    Mv fresh S ι hp w (updS S w.heap.size o) ι hp (w.alloc o) := by
  obtain ⟨h1, h2⟩ := h.keep o
  refine ⟨h2, ILe.refl _, h1, rfl, rfl, rfl, by simp, fun b hb _ => heap_alloc_old w _ b hb, fun b o' hs => ?_, fun _ h => .inr h, fun _ h => .inl h⟩
  unfold updS at hs
  split at hs
  · subst_vars; exact .inr (.inl (Nat.le_refl _))
  · exact .inl hs

theorem Mv.forget {fresh : Nm} {S : SM} {ι : NM} {hp hp' : HP} {w : World} (h : HR S ι hp w) (e : ∀ nm ob, hp' nm = some ob → hp nm = some ob) : Mv fresh S ι hp w S ι hp' w :=
  ⟨SLe.refl _, ILe.refl _, h.forget e, rfl, rfl, rfl, Nat.le_refl _, fun _ _ _ => rfl, fun _ _ h => .inl h, fun b hb => .inr (by obtain ⟨nm, ob, l, h1, h2⟩ := hb; exact ⟨nm, ob, l, e _ _ h1, h2⟩), fun _ h => .inl h⟩

theorem Mv.shutIt {fresh : Nm} {S : SM} {ι : NM} {hp : HP} {w : World} (h : HR S ι hp w) (nm : Nm) (ob : Ob) (hob : hp nm = some ob) :
    ∃ S' l c e, Mv fresh S ι hp w S' ι (updH hp nm (some ⟨ob.cs, false⟩)) w ∧ ι nm = some l ∧ S' l.blk = some (.cells c e (0, 0)) ∧ c.size = l.ext ∧ ob.cs.length ≤ c.size ∧
      (∀ i (hi : i < ob.cs.length) (hj : i < c.size), VT S' ι ob.cs[i] c[i]) := by
  by_cases hm : ob.live = true
  · obtain ⟨S', l, c, e, h1, h2, h3, h4, h5, h6, h7, h8⟩ := h.shutIt nm ob hob hm
    refine ⟨S', l, c, e, ⟨h1, ILe.refl _, h2, rfl, rfl, rfl, Nat.le_refl _, fun _ _ _ => rfl, ?_, ?_, fun _ h => .inl h⟩, h3, h4, h5, h6, h7⟩
    · intro b o hs
      rcases h8 b o hs with q | q
      · exact .inl q
      · exact .inr (.inr ⟨nm, ob, l, hob, hm, h3, q.symm⟩)
    · rintro b ⟨n, ob', l', g1, g2, g3, rfl⟩
      by_cases hne : n = nm
      · subst hne; simp only [updH, if_true, Option.some.injEq] at g1; subst g1; simp at g2
      · simp only [updH, if_neg hne] at g1; exact .inr ⟨n, ob', l', g1, g2, g3, rfl⟩
  · obtain ⟨l, c, e, q1, q2, q3, q4, q5, q6⟩ := h.o_ok nm ob hob
    have hf : ob.live = false := by simpa using hm
    simp only [hf, Bool.false_eq_true, if_false] at q6
    have heq : updH hp nm (some ⟨ob.cs, false⟩) = hp := by
      funext x
      unfold updH
      split
      · subst_vars; rw [hob]; cases ob; simp_all
      · rfl
    rw [heq]
    exact ⟨S, l, c, e, Mv.refl h, q1, q6, q3, q4, q5⟩

end Go.Ab
