/- THE ABSTRACT MACHINE, 1: abstract values, what they say of Go's values, and what a set of named objects says of the memory. Conditions: none (definitions and lemmas over any program). -/
import Derived.Laws.AppendOwn
import Derived.Laws.MakeOwn
import Derived.Lib.ConvBytes
import Derived.Orders
namespace Go.Ab

/-- The name of an object: handed in with parameter k; or made by operation i (slot d) at clock c. -/
inductive Nm where
  | arg (k : Nat)
  | loc (d i c : Nat)
  deriving DecidableEq

/-- Abstract values. -/
inductive AV where
  | undef
  | bool (b : Bool)
  | int (k : IntKind) (n : Int)
  | str (l : List UInt8)
  | sl (nil : Bool) (sz : Nat) (es : List (List AV)) (full : Bool)
  | agg (cs : List AV)
  | nilp
  | nilif
  | nilfn
  | iface (t : TypeId) (v : AV)
  | fn (f : FuncId)
  | ref (nm : Nm) (off : Nat)
  | pc (cs : List AV)
  | arr (nm : Nm) (off len sz : Nat)
  | tup (vs : List AV)

abbrev SM := Nat → Option Obj

/-- Memory that stays as it is: a cell of it. -/
def scell (S : SM) (b o : Nat) : Option Value :=
  match S b with
  | some (.cells c _ _) => c[o]?
  | _ => none

def SLe (S S' : SM) : Prop := ∀ b o, S b = some o → S' b = some o
theorem SLe.refl (S : SM) : SLe S S := fun _ _ h => h
theorem SLe.trans {A B C : SM} (h : SLe A B) (k : SLe B C) : SLe A C := fun b o e => k b o (h b o e)

theorem SLe.scell {S S' : SM} (h : SLe S S') {b o : Nat} {v : Value} (e : scell S b o = some v) : scell S' b o = some v := by
  unfold Ab.scell at e ⊢
  cases hb : S b with
  | none => rw [hb] at e; exact absurd e (by simp)
  | some ob => rw [hb] at e; rw [h b ob hb]; exact e

/-- What a value without names says. -/
inductive V (S : SM) : AV → Value → Prop
  | bool (b : Bool) : V S (.bool b) (.bool b)
  | int (k : IntKind) (n : Int) : V S (.int k n) (.int k n)
  | str (l : List UInt8) : V S (.str l) (.string ⟨l.toArray⟩)
  | slnil (sz : Nat) (full : Bool) : V S (.sl true sz [] full) (.slice none 0 0)
  | sl (sz : Nat) (es : List (List AV)) (full : Bool) (b o cap : Nat) (f : Nat → Nat → Value) :
      es.length ≤ cap → (full = true → cap = es.length) → (∀ i (hi : i < es.length), es[i].length = sz) →
      (∀ i j, i < es.length → j < sz → scell S b (o + (i * sz + j)) = some (f i j)) →
      (∀ i j (hi : i < es.length) (hj : j < es[i].length), V S es[i][j] (f i j)) → (sp : Option Nat) → (0 < cap → sp = none) →
      V S (.sl false sz es full) (.slice (some ⟨b, o, sp⟩) es.length cap)
  | agg (cs : List AV) (vs : List Value) : cs.length = vs.length → (∀ i (hi : i < cs.length) (hj : i < vs.length), V S cs[i] vs[i]) → V S (.agg cs) (.agg vs.toArray)
  | nilp : V S .nilp (.pointer none)
  | nilif : V S .nilif .nilIface
  | nilfn : V S .nilfn .nilFunc
  | iface (t : TypeId) (a : AV) (v : Value) : V S a v → V S (.iface t a) (.iface t v)
  | fn (f : FuncId) : V S (.fn f) (.func (.func f) #[] #[])

theorem V.mono {S S' : SM} (h : SLe S S') {a : AV} {v : Value} (hv : V S a v) : V S' a v := by
  induction hv with
  | bool b => exact .bool b
  | int k n => exact .int k n
  | str l => exact .str l
  | slnil sz full => exact .slnil sz full
  | sl sz es full b o cap f h1 h2 h3 h4 _ sp h6 ih => exact .sl sz es full b o cap f h1 h2 h3 (fun i j hi hj => h.scell (h4 i j hi hj)) ih sp h6
  | agg cs vs hl _ ih => exact .agg cs vs hl ih
  | nilp => exact .nilp
  | nilif => exact .nilif
  | nilfn => exact .nilfn
  | iface t a v _ ih => exact .iface t a v ih
  | fn f => exact .fn f

/-- Where an object lies: its block, how many cells it has. -/
structure Loc where
  blk : Nat
  ext : Nat

abbrev NM := Nm → Option Loc
def ILe (ι ι' : NM) : Prop := ∀ nm l, ι nm = some l → ι' nm = some l
theorem ILe.refl (ι : NM) : ILe ι ι := fun _ _ h => h
theorem ILe.trans {A B C : NM} (h : ILe A B) (k : ILe B C) : ILe A C := fun b o e => k b o (h b o e)

/-- What a value, names in it too, says. -/
inductive VT (S : SM) (ι : NM) : AV → Value → Prop
  | v {a : AV} {x : Value} : V S a x → VT S ι a x
  | undef (x : Value) : VT S ι .undef x
  | ref (nm : Nm) (off : Nat) (l : Loc) : ι nm = some l → VT S ι (.ref nm off) (.pointer (some ⟨l.blk, off, none⟩))
  | pc (cs : List AV) (b o : Nat) (f : Nat → Value) : (∀ j, j < cs.length → scell S b (o + j) = some (f j)) → (∀ j (hj : j < cs.length), V S cs[j] (f j)) → VT S ι (.pc cs) (.pointer (some ⟨b, o, none⟩))
  | arr (nm : Nm) (off len sz : Nat) (l : Loc) (o cap : Nat) : ι nm = some l → len ≤ cap → off + cap * sz = l.ext → (0 < cap → o = off) → VT S ι (.arr nm off len sz) (.slice (some ⟨l.blk, o, none⟩) len cap)
  | agg (cs : List AV) (vs : List Value) : cs.length = vs.length → (∀ i (hi : i < cs.length) (hj : i < vs.length), VT S ι cs[i] vs[i]) → VT S ι (.agg cs) (.agg vs.toArray)
  | tup (cs : List AV) (vs : List Value) : cs.length = vs.length → (∀ i (hi : i < cs.length) (hj : i < vs.length), VT S ι cs[i] vs[i]) → VT S ι (.tup cs) (.tuple vs.toArray)

theorem VT.mono {S S' : SM} {ι ι' : NM} (h : SLe S S') (hi : ILe ι ι') {a : AV} {v : Value} (hv : VT S ι a v) : VT S' ι' a v := by
  induction hv with
  | v h' => exact .v (h'.mono h)
  | undef x => exact .undef x
  | ref nm off l hl => exact .ref nm off l (hi _ _ hl)
  | pc cs b o f h1 h2 => exact .pc cs b o f (fun j hj => h.scell (h1 j hj)) (fun j hj => (h2 j hj).mono h)
  | arr nm off len sz l o cap hl h1 h2 h3 => exact .arr nm off len sz l o cap (hi _ _ hl) h1 h2 h3
  | agg cs vs hl _ ih => exact .agg cs vs hl ih
  | tup cs vs hl _ ih => exact .tup cs vs hl ih

/-- No names in a value (nor what is not known). -/
def nf : AV → Bool
  | .undef | .ref .. | .pc _ | .arr .. | .tup _ => false
  | .agg cs => nfs cs
  | _ => true
where nfs : List AV → Bool
  | [] => true
  | a :: l => nf a && nfs l

theorem nfs_get : ∀ {l : List AV} (_ : nf.nfs l = true) (i : Nat) (hi : i < l.length), nf l[i] = true
  | a :: l, h, 0, _ => by simp only [nf.nfs, Bool.and_eq_true] at h; exact h.1
  | a :: l, h, i + 1, hi => by simp only [nf.nfs, Bool.and_eq_true] at h; exact nfs_get h.2 i (by simpa using hi)

theorem VT.pure {S : SM} {ι : NM} {a : AV} {v : Value} (hv : VT S ι a v) (hn : nf a = true) : V S a v := by
  induction hv with
  | v h => exact h
  | undef x => simp [nf] at hn
  | ref nm off l hl => simp [nf] at hn
  | pc cs b o f h1 h2 => simp [nf] at hn
  | arr nm off len sz l o cap hl h1 h2 h3 => simp [nf] at hn
  | agg cs vs hl _ ih => exact .agg cs vs hl fun i hi hj => ih i hi hj (nfs_get (by simpa [nf] using hn) i hi)
  | tup cs vs hl _ ih => simp [nf] at hn

/-- A value of one cell. -/
def one : AV → Bool
  | .undef | .agg _ | .tup _ => false
  | _ => true

theorem V.oneCell {S : SM} {a : AV} {v : Value} (h : V S a v) (ho : one a = true) : v.oneCell' = true := by
  cases h <;> first | rfl | simp [one] at ho

theorem VT.oneCell {S : SM} {ι : NM} {a : AV} {v : Value} (h : VT S ι a v) (ho : one a = true) : v.oneCell' = true := by
  cases h with
  | v h => exact h.oneCell ho
  | _ => first | rfl | simp [one] at ho

/-- The cells of a value (none: not known). -/
def cellsOf : AV → Option (List AV)
  | .undef | .tup _ => none
  | .agg cs => some cs
  | a => some [a]

theorem VT.cells {S : SM} {ι : NM} {a : AV} {v : Value} (h : VT S ι a v) {cs : List AV} (hc : cellsOf a = some cs) :
    cs.length = v.cells.toList.length ∧ ∀ i (hi : i < cs.length) (hj : i < v.cells.toList.length), VT S ι cs[i] v.cells.toList[i] := by
  have single : ∀ (a : AV) (v : Value), VT S ι a v → [a].length = [v].length ∧ ∀ i (hi : i < [a].length) (hj : i < [v].length), VT S ι [a][i] [v][i] := by
    intro a v h
    refine ⟨rfl, fun i hi hj => ?_⟩
    have : i = 0 := by simpa using hi
    subst this
    exact h
  cases h with
  | v h =>
    cases h with
    | agg as vs hl hh => simp only [cellsOf, Option.some.injEq] at hc; subst hc; exact ⟨hl, fun i hi hj => .v (hh i hi hj)⟩
    | bool b => cases hc; exact single _ _ (.v (.bool b))
    | int k n => cases hc; exact single _ _ (.v (.int k n))
    | str l => cases hc; exact single _ _ (.v (.str l))
    | slnil sz full => cases hc; exact single _ _ (.v (.slnil sz full))
    | sl sz es full b o cap f h1 h2 h3 h4 h5 sp h6 => cases hc; exact single _ _ (.v (.sl sz es full b o cap f h1 h2 h3 h4 h5 sp h6))
    | nilp => cases hc; exact single _ _ (.v .nilp)
    | nilif => cases hc; exact single _ _ (.v .nilif)
    | nilfn => cases hc; exact single _ _ (.v .nilfn)
    | iface t a v h => cases hc; exact single _ _ (.v (.iface t a v h))
    | fn f => cases hc; exact single _ _ (.v (.fn f))
  | undef x => simp [cellsOf] at hc
  | ref nm off l hl => cases hc; exact single _ _ (.ref nm off l hl)
  | pc cs b o f h1 h2 => cases hc; exact single _ _ (.pc cs b o f h1 h2)
  | arr nm off len sz l o cap hl h1 h2 h3 => cases hc; exact single _ _ (.arr nm off len sz l o cap hl h1 h2 h3)
  | agg as vs hl hh => simp only [cellsOf, Option.some.injEq] at hc; subst hc; exact ⟨hl, fun i hi hj => hh i hi hj⟩
  | tup as vs hl hh => simp [cellsOf] at hc

/-- An object: its cells (as far as they are known); may it be written? -/
structure Ob where
  cs : List AV
  live : Bool

abbrev HP := Nm → Option Ob

/-- What the named objects say of the memory. -/
structure HR (S : SM) (ι : NM) (hp : HP) (w : World) : Prop where
  s_ok : ∀ b o, S b = some o → w.heap[b]? = some o
  o_ok : ∀ nm ob, hp nm = some ob → ∃ l c e, ι nm = some l ∧ w.heap[l.blk]? = some (.cells c e (0, 0)) ∧ c.size = l.ext ∧ ob.cs.length ≤ c.size ∧
    (∀ i (hi : i < ob.cs.length) (hj : i < c.size), VT S ι ob.cs[i] c[i]) ∧ (if ob.live then S l.blk = none else S l.blk = some (.cells c e (0, 0)))
  inj : ∀ nm nm' ob ob' l l', hp nm = some ob → hp nm' = some ob' → ι nm = some l → ι nm' = some l' → l.blk = l'.blk → nm = nm'

theorem HR.lt {S : SM} {ι : NM} {hp : HP} {w : World} (h : HR S ι hp w) {b : Nat} {o : Obj} (hb : S b = some o) : b < w.heap.size := by
  have := h.s_ok b o hb
  exact (Array.getElem?_eq_some_iff.1 this).1

theorem HR.cell {S : SM} {ι : NM} {hp : HP} {w : World} (h : HR S ι hp w) {b o : Nat} {v : Value} (e : scell S b o = some v) : w.cell? ⟨b, o, none⟩ = some v := by
  unfold scell at e
  cases hb : S b with
  | none => rw [hb] at e; exact absurd e (by simp)
  | some ob =>
    rw [hb] at e
    have := h.s_ok b ob hb
    simp only [World.cell?, this]
    cases ob <;> simp_all

def updN (ι : NM) (nm : Nm) (l : Loc) : NM := fun x => if x = nm then some l else ι x
def updH (hp : HP) (nm : Nm) (o : Option Ob) : HP := fun x => if x = nm then o else hp x

theorem updN_le {ι : NM} {nm : Nm} {l : Loc} (h : ι nm = none) : ILe ι (updN ι nm l) := fun x y hx => by
  unfold updN
  split
  · subst_vars; rw [h] at hx; cases hx
  · exact hx

/-- A world with the same memory. -/
theorem HR.same {S : SM} {ι : NM} {hp : HP} {w w' : World} (h : HR S ι hp w) (e : w'.heap = w.heap) : HR S ι hp w' :=
  ⟨fun b o hb => by rw [e]; exact h.s_ok b o hb, fun nm ob hn => by rw [e]; exact h.o_ok nm ob hn, h.inj⟩

/-- Objects forgotten. -/
theorem HR.forget {S : SM} {ι : NM} {hp hp' : HP} {w : World} (h : HR S ι hp w) (e : ∀ nm ob, hp' nm = some ob → hp nm = some ob) : HR S ι hp' w :=
  ⟨h.s_ok, fun nm ob hn => h.o_ok nm ob (e nm ob hn), fun nm nm' ob ob' l l' a b => h.inj nm nm' ob ob' l l' (e _ _ a) (e _ _ b)⟩

/-- A new object. -/
theorem HR.alloc {S : SM} {ι : NM} {hp : HP} {w : World} (h : HR S ι hp w) (nm : Nm) (cs : List AV) (c : Array Value) (e : TypeId)
    (hn : ι nm = none) (hl : cs.length ≤ c.size) (hc : ∀ i (hi : i < cs.length) (hj : i < c.size), VT S ι cs[i] c[i]) :
    HR S (updN ι nm ⟨w.heap.size, c.size⟩) (updH hp nm (some ⟨cs, true⟩)) (w.alloc (.cells c e)) := by
  have old : ∀ b, b < w.heap.size → (w.alloc (.cells c e)).heap[b]? = w.heap[b]? := fun b hb => heap_alloc_old w _ b hb
  have hlt : ∀ nm' ob l, hp nm' = some ob → ι nm' = some l → l.blk < w.heap.size := by
    intro nm' ob l hp' hl'
    obtain ⟨l2, c2, e2, q1, q2, _⟩ := h.o_ok nm' ob hp'
    rw [hl'] at q1; cases q1
    exact (Array.getElem?_eq_some_iff.1 q2).1
  have hSn : S w.heap.size = none := by
    cases hS : S w.heap.size with
    | none => rfl
    | some o => exact absurd (h.lt hS) (Nat.lt_irrefl _)
  refine ⟨fun b o hb => by rw [old b (h.lt hb)]; exact h.s_ok b o hb, fun nm' ob hp' => ?_, fun n1 n2 o1 o2 l1 l2 g1 g2 k1 k2 hb => ?_⟩
  · by_cases hne : nm' = nm
    · subst hne
      simp only [updH, if_true, Option.some.injEq] at hp'
      subst hp'
      refine ⟨⟨w.heap.size, c.size⟩, c, e, by simp [updN], heap_alloc_new w _, rfl, hl, fun i hi hj => (hc i hi hj).mono (SLe.refl _) (updN_le hn), by simpa using hSn⟩
    · simp only [updH, if_neg hne] at hp'
      obtain ⟨l, c2, e2, q1, q2, q3, q4, q5, q6⟩ := h.o_ok nm' ob hp'
      exact ⟨l, c2, e2, by simp [updN, hne, q1], by rw [old _ (hlt nm' ob l hp' q1)]; exact q2, q3, q4, fun i hi hj => (q5 i hi hj).mono (SLe.refl _) (updN_le hn), q6⟩
  · by_cases e1 : n1 = nm <;> by_cases e2 : n2 = nm
    · rw [e1, e2]
    · simp only [updH, updN, e1, if_true, if_neg e2] at g1 g2 k1 k2
      cases k1
      have := hlt n2 o2 l2 g2 k2
      simp only at hb; omega
    · simp only [updH, updN, e2, if_true, if_neg e1] at g1 g2 k1 k2
      cases k2
      have := hlt n1 o1 l1 g1 k1
      simp only at hb; omega
    · simp only [updH, updN, if_neg e1, if_neg e2] at g1 g2 k1 k2
      exact h.inj n1 n2 o1 o2 l1 l2 g1 g2 k1 k2 hb

/-- An object written. -/
theorem HR.store {S : SM} {ι : NM} {hp : HP} {w : World} (h : HR S ι hp w) (nm : Nm) (ob : Ob) (hob : hp nm = some ob) (hm : ob.live = true)
    (l : Loc) (hl : ι nm = some l) (cs' : List AV) (c' : Array Value) (hs : c'.size = l.ext) (hle : cs'.length ≤ c'.size)
    (hc : ∀ i (hi : i < cs'.length) (hj : i < c'.size), VT S ι cs'[i] c'[i]) :
    HR S ι (updH hp nm (some ⟨cs', true⟩)) (w.setRow l.blk c') := by
  obtain ⟨l0, c0, e0, q1, q2, q3, q4, q5, q6⟩ := h.o_ok nm ob hob
  rw [hl] at q1; cases q1
  simp only [hm, if_true] at q6
  refine ⟨fun b o hb => ?_, fun nm' ob' hp' => ?_, fun n1 n2 o1 o2 l1 l2 g1 g2 k1 k2 hb => ?_⟩
  · have hne : b ≠ l.blk := by intro hb'; subst hb'; rw [q6] at hb; cases hb
    rw [setRow_other w _ _ _ hne]; exact h.s_ok b o hb
  · by_cases hne : nm' = nm
    · subst hne
      simp only [updH, if_true, Option.some.injEq] at hp'
      subst hp'
      exact ⟨l, c', e0, hl, setRow_heap w _ c0 _ e0 _ q2, hs, hle, hc, by simpa using q6⟩
    · simp only [updH, if_neg hne] at hp'
      obtain ⟨l1, c1, e1, p1, p2, p3, p4, p5, p6⟩ := h.o_ok nm' ob' hp'
      have hbl : l1.blk ≠ l.blk := fun hb => hne (h.inj nm' nm ob' ob l1 l hp' hob p1 hl hb)
      exact ⟨l1, c1, e1, p1, by rw [setRow_other w _ _ _ hbl]; exact p2, p3, p4, p5, p6⟩
  · have f : ∀ n o, updH hp nm (some ⟨cs', true⟩) n = some o → ∃ o', hp n = some o' := by
      intro n o hn
      by_cases hne : n = nm
      · subst hne; exact ⟨ob, hob⟩
      · simp only [updH, if_neg hne] at hn; exact ⟨o, hn⟩
    obtain ⟨o1', g1'⟩ := f n1 o1 g1
    obtain ⟨o2', g2'⟩ := f n2 o2 g2
    exact h.inj n1 n2 o1' o2' l1 l2 g1' g2' k1 k2 hb

def updS (S : SM) (b : Nat) (o : Obj) : SM := fun x => if x = b then some o else S x
theorem updS_le {S : SM} {b : Nat} {o : Obj} (h : S b = none) : SLe S (updS S b o) := fun x y hx => by
  unfold updS
  split
  · subst_vars; rw [h] at hx; cases hx
  · exact hx

/-- A block that stays as it is from now on, and is no object. -/
theorem HR.keep {S : SM} {ι : NM} {hp : HP} {w : World} (h : HR S ι hp w) (o : Obj) :
    HR (updS S w.heap.size o) ι hp (w.alloc o) ∧ SLe S (updS S w.heap.size o) := by
  have hSn : S w.heap.size = none := by
    cases hS : S w.heap.size with
    | none => rfl
    | some o => exact absurd (h.lt hS) (Nat.lt_irrefl _)
  have hle : SLe S (updS S w.heap.size o) := updS_le hSn
  refine ⟨⟨fun b o' hb => ?_, fun nm ob hn => ?_, h.inj⟩, hle⟩
  · unfold updS at hb
    split at hb
    · cases hb; subst_vars; exact heap_alloc_new w _
    · rw [heap_alloc_old w _ b (h.lt hb)]; exact h.s_ok b o' hb
  · obtain ⟨l, c, e, q1, q2, q3, q4, q5, q6⟩ := h.o_ok nm ob hn
    have hlt : l.blk < w.heap.size := (Array.getElem?_eq_some_iff.1 q2).1
    have hne : l.blk ≠ w.heap.size := by omega
    refine ⟨l, c, e, q1, by rw [heap_alloc_old w _ _ hlt]; exact q2, q3, q4, fun i hi hj => (q5 i hi hj).mono hle (ILe.refl _), ?_⟩
    simp only [updS, if_neg hne]
    exact q6

/-- An object that is written no more. -/
theorem HR.shutIt {S : SM} {ι : NM} {hp : HP} {w : World} (h : HR S ι hp w) (nm : Nm) (ob : Ob) (hob : hp nm = some ob) (hm : ob.live = true) :
    ∃ S' l c e, SLe S S' ∧ HR S' ι (updH hp nm (some ⟨ob.cs, false⟩)) w ∧ ι nm = some l ∧ S' l.blk = some (.cells c e (0, 0)) ∧ c.size = l.ext ∧ ob.cs.length ≤ c.size ∧
      (∀ i (hi : i < ob.cs.length) (hj : i < c.size), VT S' ι ob.cs[i] c[i]) ∧ (∀ b o, S' b = some o → S b = some o ∨ b = l.blk) := by
  obtain ⟨l, c, e, q1, q2, q3, q4, q5, q6⟩ := h.o_ok nm ob hob
  simp only [hm, if_true] at q6
  have hle : SLe S (updS S l.blk (.cells c e (0, 0))) := updS_le q6
  refine ⟨updS S l.blk (.cells c e (0, 0)), l, c, e, hle, ⟨fun b o hb => ?_, fun nm' ob' hp' => ?_, fun n1 n2 o1 o2 l1 l2 g1 g2 k1 k2 hb => ?_⟩, q1, by simp [updS], q3, q4, fun i hi hj => (q5 i hi hj).mono hle (ILe.refl _), fun b o hb => ?_⟩
  rotate_right
  · unfold updS at hb
    split at hb
    · exact .inr ‹_›
    · exact .inl hb
  · unfold updS at hb
    split at hb
    · cases hb; subst_vars; exact q2
    · exact h.s_ok b o hb
  · by_cases hne : nm' = nm
    · subst hne
      simp only [updH, if_true, Option.some.injEq] at hp'
      subst hp'
      exact ⟨l, c, e, q1, q2, q3, q4, fun i hi hj => (q5 i hi hj).mono hle (ILe.refl _), by simp [updS]⟩
    · simp only [updH, if_neg hne] at hp'
      obtain ⟨l1, c1, e1, p1, p2, p3, p4, p5, p6⟩ := h.o_ok nm' ob' hp'
      have hbl : l1.blk ≠ l.blk := fun hb => hne (h.inj nm' nm ob' ob l1 l hp' hob p1 q1 hb)
      refine ⟨l1, c1, e1, p1, p2, p3, p4, fun i hi hj => (p5 i hi hj).mono hle (ILe.refl _), ?_⟩
      simp only [updS, if_neg hbl]
      exact p6
  · have f : ∀ n o, updH hp nm (some ⟨ob.cs, false⟩) n = some o → ∃ o', hp n = some o' := by
      intro n o hn
      by_cases hne : n = nm
      · subst hne; exact ⟨ob, hob⟩
      · simp only [updH, if_neg hne] at hn; exact ⟨o, hn⟩
    obtain ⟨o1', g1'⟩ := f n1 o1 g1
    obtain ⟨o2', g2'⟩ := f n2 o2 g2
    exact h.inj n1 n2 o1' o2' l1 l2 g1' g2' k1 k2 hb

/-- What a call leaves as it was: all but its own new blocks and those handed to it. -/
structure Fr (w0 : World) (pb : Nat → Prop) (w : World) : Prop where
  os : w.os = w0.os
  tape : w.tape = w0.tape
  output : w.output = w0.output
  size : w0.heap.size ≤ w.heap.size
  block : ∀ b, b < w0.heap.size → ¬ pb b → w.heap[b]? = w0.heap[b]?

theorem Fr.refl (w : World) (pb : Nat → Prop) : Fr w pb w := ⟨rfl, rfl, rfl, Nat.le_refl _, fun _ _ _ => rfl⟩

end Go.Ab
