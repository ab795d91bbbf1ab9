/- THE ABSTRACT MACHINE, 4: loads, stores, fields, indexes, slices. Conditions: the table of types is the program's. -/
import Derived.Test.YthbbollhojdjdaaAbOps
namespace Go.Ab
set_option linter.unusedSimpArgs false

theorem addr_add (b o n : Nat) : (⟨b, o, none⟩ : Addr).add n = ⟨b, o + n, none⟩ := Addr.add_lit b o n

/-- Cells that lie at a place. -/
def CellsAt (S : SM) (ι : NM) (w : World) (b o : Nat) (cs : List AV) : Prop :=
  ∃ vs : List Value, vs.length = cs.length ∧ (∀ j (hj : j < vs.length), w.cell? ⟨b, o + j, none⟩ = some vs[j]) ∧ ∀ j (h1 : j < cs.length) (h2 : j < vs.length), VT S ι cs[j] vs[j]

theorem CellsAt.mk {S : SM} {ι : NM} {w : World} {b o : Nat} {cs : List AV} (f : Nat → Value) (h : ∀ j, j < cs.length → w.cell? ⟨b, o + j, none⟩ = some (f j))
    (hv : ∀ j (hj : j < cs.length), VT S ι cs[j] (f j)) : CellsAt S ι w b o cs :=
  ⟨(List.range cs.length).map f, by simp, fun j hj => by simpa using h j (by simpa using hj), fun j h1 h2 => by simpa using hv j h1⟩

theorem CellsAt.drop {S : SM} {ι : NM} {w : World} {b o : Nat} {cs : List AV} (h : CellsAt S ι w b o cs) (n : Nat) : CellsAt S ι w b (o + n) (cs.drop n) := by
  obtain ⟨vs, h1, h2, h3⟩ := h
  refine ⟨vs.drop n, by simp [h1], fun j hj => ?_, fun j a1 a2 => ?_⟩
  · have := h2 (n + j) (by simp at hj; omega)
    simpa [Nat.add_assoc] using this
  · have := h3 (n + j) (by simp at a1; omega) (by simp at a2; omega)
    simpa using this

theorem CellsAt.take {S : SM} {ι : NM} {w : World} {b o : Nat} {cs : List AV} (h : CellsAt S ι w b o cs) (n : Nat) : CellsAt S ι w b o (cs.take n) := by
  obtain ⟨vs, h1, h2, h3⟩ := h
  refine ⟨vs.take n, by simp [h1], fun j hj => ?_, fun j a1 a2 => ?_⟩
  · have := h2 j (by simp at hj; omega)
    simpa using this
  · have := h3 j (by simp at a1; omega) (by simp at a2; omega)
    simpa using this

theorem HR.cellsAt {S : SM} {ι : NM} {hp : HP} {w : World} (h : HR S ι hp w) {nm : Nm} {ob : Ob} (hob : hp nm = some ob) {l : Loc} (hl : ι nm = some l) :
    CellsAt S ι w l.blk 0 ob.cs := by
  obtain ⟨l0, c, e, q1, q2, q3, q4, q5, _⟩ := h.o_ok nm ob hob
  rw [hl] at q1; cases q1
  refine CellsAt.mk (fun j => c.getD j undef) (fun j hj => ?_) (fun j hj => ?_)
  · have hj' : j < c.size := by omega
    simp [World.cell?, q2, Array.getD, hj']
  · have hj' : j < c.size := by omega
    have := q5 j hj hj'
    simpa [Array.getD, hj'] using this

theorem VT.ref_inv {S : SM} {ι : NM} {nm : Nm} {off : Nat} {v : Value} (h : VT S ι (.ref nm off) v) : ∃ l, ι nm = some l ∧ v = .pointer (some ⟨l.blk, off, none⟩) := by
  cases h with
  | v h => cases h
  | ref _ _ l hl => exact ⟨l, hl, rfl⟩

theorem VT.pc_inv {S : SM} {ι : NM} {hp : HP} {w : World} (hr : HR S ι hp w) {cs : List AV} {v : Value} (h : VT S ι (.pc cs) v) : ∃ b o, v = .pointer (some ⟨b, o, none⟩) ∧ CellsAt S ι w b o cs := by
  cases h with
  | v h => cases h
  | pc _ b o f h1 h2 => exact ⟨b, o, rfl, CellsAt.mk f (fun j hj => hr.cell (h1 j hj)) (fun j hj => .v (h2 j hj))⟩

theorem VT.arr_inv {S : SM} {ι : NM} {nm : Nm} {off len sz : Nat} {v : Value} (h : VT S ι (.arr nm off len sz) v) :
    ∃ l o cap, ι nm = some l ∧ v = .slice (some ⟨l.blk, o, none⟩) len cap ∧ len ≤ cap ∧ off + cap * sz = l.ext ∧ (0 < cap → o = off) := by
  cases h with
  | v h => cases h
  | arr _ _ _ _ l o cap h1 h2 h3 h4 => exact ⟨l, o, cap, h1, rfl, h2, h3, h4⟩

theorem VT.int_inv {S : SM} {ι : NM} {k : IntKind} {n : Int} {v : Value} (h : VT S ι (.int k n) v) : v = .int k n := by
  cases h with
  | v h => cases h; rfl

theorem VT.bool_inv {S : SM} {ι : NM} {b : Bool} {v : Value} (h : VT S ι (.bool b) v) : v = .bool b := by
  cases h with
  | v h => cases h; rfl

theorem VT.str_inv {S : SM} {ι : NM} {l : List UInt8} {v : Value} (h : VT S ι (.str l) v) : v = .string ⟨l.toArray⟩ := by
  cases h with
  | v h => cases h; rfl

theorem VT.sl_inv {S : SM} {ι : NM} {n full : Bool} {sz : Nat} {es : List (List AV)} {v : Value} (h : VT S ι (.sl n sz es full) v) :
    (n = true ∧ es = [] ∧ v = .slice none 0 0) ∨ (n = false ∧ ∃ b o sp cap, ∃ f : Nat → Nat → Value, v = .slice (some ⟨b, o, sp⟩) es.length cap ∧ (0 < cap → sp = none) ∧ es.length ≤ cap ∧ (full = true → cap = es.length) ∧
      (∀ i (hi : i < es.length), es[i].length = sz) ∧ (∀ i j, i < es.length → j < sz → scell S b (o + (i * sz + j)) = some (f i j)) ∧
      (∀ i j (hi : i < es.length) (hj : j < es[i].length), V S es[i][j] (f i j))) := by
  cases h with
  | v h =>
    cases h with
    | slnil => exact .inl ⟨rfl, rfl, rfl⟩
    | sl _ _ _ b o cap f h1 h2 h3 h4 h5 sp h6 => exact .inr ⟨rfl, b, o, sp, cap, f, rfl, h6, h1, h2, h3, h4, h5⟩

theorem VT.tup_inv {S : SM} {ι : NM} {cs : List AV} {v : Value} (h : VT S ι (.tup cs) v) : ∃ vs : List Value, v = .tuple vs.toArray ∧ cs.length = vs.length ∧ ∀ i (hi : i < cs.length) (hj : i < vs.length), VT S ι cs[i] vs[i] := by
  cases h with
  | v h => cases h
  | tup _ vs h1 h2 => exact ⟨vs, rfl, h1, h2⟩

theorem VT.agg_inv {S : SM} {ι : NM} {cs : List AV} {v : Value} (h : VT S ι (.agg cs) v) : ∃ vs : List Value, v = .agg vs.toArray ∧ cs.length = vs.length ∧ ∀ i (hi : i < cs.length) (hj : i < vs.length), VT S ι cs[i] vs[i] := by
  cases h with
  | v h => cases h with
    | agg _ vs h1 h2 => exact ⟨vs, rfl, h1, fun i hi hj => .v (h2 i hi hj)⟩
  | agg _ vs h1 h2 => exact ⟨vs, rfl, h1, h2⟩

theorem VT.fn_inv {S : SM} {ι : NM} {f : FuncId} {v : Value} (h : VT S ι (.fn f) v) : v = .func (.func f) #[] #[] := by
  cases h with
  | v h => cases h; rfl

section
variable {P : Program} {tt : TypeId → Option TI} (hT : TTok P tt)
include hT

theorem run_under {t : TypeId} {i : TI} (h : tt t = some i) : ∃ d, P.underlying t = some d ∧ descOk d i.desc := (hT t i h).under

theorem run_sizeOf {t : TypeId} {i : TI} (h : tt t = some i) (w : World) : (sizeOf t).run P w = .ok i.size w := by
  obtain ⟨info, z, h1, h2, _⟩ := (hT t i h).info
  simp [sizeOf, typeInfo, h1, h2]

theorem run_isAgg {t : TypeId} {i : TI} (h : tt t = some i) (w : World) : (isAgg t).run P w = .ok i.desc.isAgg w := by
  obtain ⟨d, h1, h2⟩ := (hT t i h).under
  have h3 := h2.agg
  cases d <;> simp [isAgg, run_underlying h1] <;> simpa [isAggD] using h3

theorem takeA_ok {S : SM} {ι : NM} {w : World} {b o : Nat} {cs : List AV} (hc : CellsAt S ι w b o cs) {t : TypeId} {i : TI} (h : tt t = some i) {v : AV} (hv : takeA i cs = some v) :
    ∃ val, (loadVar t ⟨b, o, none⟩).run P w = .ok val w ∧ VT S ι v val := by
  obtain ⟨vs, h1, h2, h3⟩ := hc
  unfold takeA at hv
  split at hv
  · rename_i hag
    split at hv
    · rename_i hsz
      cases hv
      refine ⟨.agg (vs.take i.size).toArray, ?_, .agg _ _ (by simp [h1]) fun j a1 a2 => ?_⟩
      · have hr := run_loadCells_list (P := P) w ⟨b, o, none⟩ (vs.take i.size) (fun j v hj => by
          rw [addr_add]
          have hlt : j < (vs.take i.size).length := (List.getElem?_eq_some_iff.1 hj).1
          have := h2 j (by simp at hlt; omega)
          rw [this]
          have he := (List.getElem?_eq_some_iff.1 hj).2
          rw [List.getElem_take] at he
          rw [he])
        have hlen : (vs.take i.size).length = i.size := by simp [h1]; omega
        rw [hlen] at hr
        simp [loadVar, run_isAgg hT h, hag, run_sizeOf hT h, hr]
      · have := h3 j (by simp at a1; omega) (by simp at a2; omega)
        simpa using this
    · cases hv
  · rename_i hag
    cases cs with
    | nil => cases hv
    | cons c cs =>
      cases hv
      have hv0 : 0 < vs.length := by simp at h1; omega
      refine ⟨vs[0], ?_, h3 0 (by simp) hv0⟩
      have := h2 0 hv0
      rw [Nat.add_zero] at this
      simp [loadVar, run_isAgg hT h, hag, this]

theorem loadA_ok {S : SM} {ι : NM} {hp : HP} {w : World} (hr : HR S ι hp w) {t : TypeId} {p v : AV} (hv : loadA tt t p hp = some v) {pv : Value} (hp' : VT S ι p pv) :
    ∃ val, (Instr.loadAt t pv).run P w = .ok val w ∧ VT S ι v val := by
  unfold loadA at hv
  cases ht : tt t with
  | none => rw [ht] at hv; cases hv
  | some ti =>
    rw [ht] at hv
    simp only at hv
    split at hv
    · rename_i nm off
      cases ho : hp nm with
      | none => rw [ho] at hv; cases hv
      | some ob =>
        rw [ho] at hv
        obtain ⟨l, hl, rfl⟩ := hp'.ref_inv
        have hc := (hr.cellsAt ho hl).drop off
        rw [Nat.zero_add] at hc
        obtain ⟨val, h1, h2⟩ := takeA_ok hT hc ht hv
        exact ⟨val, by simpa [Instr.loadAt, Instr.sureAddr] using h1, h2⟩
    · rename_i cs
      obtain ⟨b, o, rfl, hc⟩ := VT.pc_inv hr hp'
      obtain ⟨val, h1, h2⟩ := takeA_ok hT hc ht hv
      exact ⟨val, by simpa [Instr.loadAt, Instr.sureAddr] using h1, h2⟩
    · cases hv

end

theorem over_length {cs xs : List AV} {off : Nat} (h : off + xs.length ≤ cs.length) : (over cs off xs).length = cs.length := by
  simp [over]; omega

theorem over_get {cs xs : List AV} {off : Nat} (h : off + xs.length ≤ cs.length) (i : Nat) (hi : i < (over cs off xs).length) :
    (i < off ∧ ∃ h', (over cs off xs)[i] = cs[i]'h') ∨ (off ≤ i ∧ i < off + xs.length ∧ ∃ h', (over cs off xs)[i] = xs[i - off]'h') ∨ (off + xs.length ≤ i ∧ ∃ h', (over cs off xs)[i] = cs[i]'h') := by
  have hl := over_length h
  by_cases h1 : i < off
  · refine .inl ⟨h1, by omega, ?_⟩
    simp only [over]
    rw [List.getElem_append_left (by simp; omega), List.getElem_append_left (by simp; omega), List.getElem_take]
  · by_cases h2 : i < off + xs.length
    · refine .inr (.inl ⟨by omega, h2, by omega, ?_⟩)
      simp only [over]
      rw [List.getElem_append_left (by simp; omega), List.getElem_append_right (by simp; omega)]
      congr 1
      simp
      omega
    · refine .inr (.inr ⟨by omega, by omega, ?_⟩)
      simp only [over]
      rw [List.getElem_append_right (by simp; omega), List.getElem_drop]
      congr 1
      simp
      omega

/-- Values put into a row of cells. -/
def overV (c : Array Value) (off : Nat) (xs : List Value) : Array Value := (c.toList.take off ++ xs ++ c.toList.drop (off + xs.length)).toArray

theorem overV_size {c : Array Value} {xs : List Value} {off : Nat} (h : off + xs.length ≤ c.size) : (overV c off xs).size = c.size := by
  simp [overV]; omega

theorem overV_get {c : Array Value} {xs : List Value} {off : Nat} (h : off + xs.length ≤ c.size) (i : Nat) (hi : i < (overV c off xs).size) :
    (i < off ∧ ∃ h', (overV c off xs)[i] = c[i]'h') ∨ (off ≤ i ∧ i < off + xs.length ∧ ∃ h', (overV c off xs)[i] = xs[i - off]'h') ∨ (off + xs.length ≤ i ∧ ∃ h', (overV c off xs)[i] = c[i]'h') := by
  have hl := overV_size h
  by_cases h1 : i < off
  · refine .inl ⟨h1, by omega, ?_⟩
    simp only [overV, List.getElem_toArray]
    rw [List.getElem_append_left (by simp; omega), List.getElem_append_left (by simp; omega), List.getElem_take]
    simp
  · by_cases h2 : i < off + xs.length
    · refine .inr (.inl ⟨by omega, h2, by omega, ?_⟩)
      simp only [overV, List.getElem_toArray]
      rw [List.getElem_append_left (by simp; omega), List.getElem_append_right (by simp; omega)]
      congr 1
      simp
      omega
    · refine .inr (.inr ⟨by omega, by omega, ?_⟩)
      simp only [overV, List.getElem_toArray]
      rw [List.getElem_append_right (by simp; omega), List.getElem_drop]
      simp only [Array.getElem_toList]
      congr 1
      simp
      omega

/-- Cells written over others say what is said of them. -/
theorem over_VT {S : SM} {ι : NM} {cs xs : List AV} {c : Array Value} {vs : List Value} {off : Nat} (hl : cs.length ≤ c.size) (hle : off + xs.length ≤ cs.length) (hxv : xs.length = vs.length)
    (hc : ∀ i (hi : i < cs.length) (hj : i < c.size), VT S ι cs[i] c[i]) (hx : ∀ i (hi : i < xs.length) (hj : i < vs.length), VT S ι xs[i] vs[i]) :
    ∀ i (hi : i < (over cs off xs).length) (hj : i < (overV c off vs).size), VT S ι (over cs off xs)[i] (overV c off vs)[i] := by
  intro i hi hj
  rcases over_get hle i hi with ⟨a, h1, e1⟩ | ⟨a, b, h1, e1⟩ | ⟨a, h1, e1⟩ <;> rcases overV_get (by omega) i hj with ⟨a', h2, e2⟩ | ⟨a', b', h2, e2⟩ | ⟨a', h2, e2⟩ <;> first
    | (rw [e1, e2]; exact hc i h1 h2)
    | (rw [e1, e2]; exact hx _ h1 h2)
    | (exfalso; omega)

end Go.Ab
