/- THE ABSTRACT MACHINE, 6: what makes memory: new variables, literals, make, append; copy. Conditions: the table of types is the program's. -/
import Derived.Test.YthbbollhojdjdaaAbOps3
namespace Go.Ab
set_option linter.unusedSimpArgs false

theorem run_list_mapM {P : Program} {α β : Type} (f : α → Sem β) (g : α → β) : ∀ (l : List α) (w : World), (∀ x ∈ l, ∀ w, (f x).run P w = .ok (g x) w) → (l.mapM f).run P w = .ok (l.map g) w
  | [], w, _ => by simp
  | a :: l, w, h => by
    have h1 := h a (by simp) w
    have h2 := run_list_mapM f g l w (fun x hx => h x (by simp [hx]))
    simp [List.mapM_cons, h1, h2]

theorem run_array_mapM {P : Program} {α β : Type} (f : α → Sem β) (g : α → β) (l : Array α) (w : World) (h : ∀ x ∈ l.toList, ∀ w, (f x).run P w = .ok (g x) w) : (l.mapM f).run P w = .ok (l.map g) w := by
  rw [Array.mapM_eq_mapM_toList]
  simp only [Sem.run_map, run_list_mapM f g l.toList w h, Result.andThen_ok]
  congr 1
  apply Array.ext'
  simp

theorem foldl_over : ∀ (xs : List Value) (off k : Nat) (c : Array Value), off + k + xs.length ≤ c.size →
    (xs.zipIdx k).foldl (fun (cs : Array Value) (p : Value × Nat) => cs.setIfInBounds (off + p.2) p.1) c = overV c (off + k) xs
  | [], off, k, c, h => by simp [overV]
  | x :: xs, off, k, c, h => by
    simp only [List.zipIdx_cons, List.foldl_cons]
    rw [foldl_over xs off (k + 1) _ (by simp at h ⊢; omega)]
    have e := list_seg_step c.toList (off + k) x xs (by simp at h ⊢; omega)
    unfold overV
    congr 1
    simpa [Array.toList_setIfInBounds, Nat.add_assoc] using e

theorem array_zipIdx_foldl (xs : Array Value) (off : Nat) (c : Array Value) (h : off + xs.size ≤ c.size) :
    xs.zipIdx.foldl (fun (cs : Array Value) (p : Value × Nat) => cs.setIfInBounds (off + p.2) p.1) c = overV c off xs.toList := by
  have := foldl_over xs.toList off 0 c (by simpa using h)
  rw [Nat.add_zero] at this
  rw [← this, ← Array.foldl_toList]
  simp [Array.toList_zipIdx]

/-- The parts of a literal, in both worlds. -/
inductive Parts (S : SM) (ι : NM) (place : Nat → Option (Nat × Nat)) : List (Nat × Nat × AV) → List (Nat × Value) → Prop
  | nil : Parts S ι place [] []
  | cons {off size i : Nat} {x : AV} {v : Value} {l : List (Nat × Nat × AV)} {r : List (Nat × Value)} : place i = some (off, size) → VT S ι x v → Parts S ι place l r → Parts S ι place ((off, size, x) :: l) ((i, v) :: r)

theorem fill_ok {S : SM} {ι : NM} {place : Nat → Option (Nat × Nat)} {ps : List (Nat × Nat × AV)} {pv : List (Nat × Value)} (h : Parts S ι place ps pv) :
    ∀ {cs cs' : List AV} {c : Array Value}, fillA cs ps = some cs' → cs.length = c.size → (∀ i (hi : i < cs.length) (hj : i < c.size), VT S ι cs[i] c[i]) →
      ∃ c', Instr.fill place c pv = some c' ∧ c'.size = c.size ∧ cs'.length = c.size ∧ ∀ i (hi : i < cs'.length) (hj : i < c'.size), VT S ι cs'[i] c'[i] := by
  induction h with
  | nil =>
    intro cs cs' c hf hl hv
    simp only [fillA, Option.some.injEq] at hf
    subst hf
    exact ⟨c, rfl, rfl, hl, hv⟩
  | cons hp hx _ ih =>
    rename_i off size i x v l r _
    intro cs cs' c hf hl hv
    simp only [fillA] at hf
    split at hf
    · rename_i xs hxs
      split at hf
      · rename_i hc
        obtain ⟨c1, c2⟩ := hc
        obtain ⟨e1, e2⟩ := hx.cells hxs
        have hsz : v.cells.size = size := by rw [← c1, e1]; simp
        have hle : off + v.cells.size ≤ c.size := by omega
        obtain ⟨c', g1, g2, g3, g4⟩ := ih (c := overV c off v.cells.toList) hf (by rw [over_length (by omega), overV_size (by simpa using hle)]; exact hl) (over_VT (by omega) (by omega) e1 hv e2)
        refine ⟨c', ?_, by rw [g2, overV_size (by simpa using hle)], by rw [g3, overV_size (by simpa using hle)], g4⟩
        simp only [Instr.fill, hp]
        rw [if_neg (by simp [hsz]; omega)]
        rw [array_zipIdx_foldl _ _ _ hle]
        exact g1
      · cases hf
    · cases hf

theorem flatten_rep_get {α : Type} (zs : List α) : ∀ (n i : Nat) (hi : i < (List.replicate n zs).flatten.length) (h0 : 0 < zs.length), (List.replicate n zs).flatten[i] = zs[i % zs.length]'(Nat.mod_lt _ h0)
  | 0, i, hi, _ => by simp at hi
  | n + 1, i, hi, h0 => by
    simp only [List.replicate_succ, List.flatten_cons]
    by_cases h : i < zs.length
    · rw [List.getElem_append_left h]
      congr 1
      exact (Nat.mod_eq_of_lt h).symm
    · rw [List.getElem_append_right (by omega)]
      rw [flatten_rep_get zs n (i - zs.length) _ h0]
      congr 1
      exact (Nat.mod_eq_sub_mod (by omega)).symm

theorem flatten_rep_length {α : Type} (zs : List α) (n : Nat) : (List.replicate n zs).flatten.length = n * zs.length := by
  simp

theorem flatten_get {α : Type} {sz : Nat} : ∀ (es : List (List α)), (∀ i (hi : i < es.length), es[i].length = sz) → ∀ (k : Nat) (hk : k < es.flatten.length), 0 < sz → ∃ (h1 : k / sz < es.length) (h2 : k % sz < es[k / sz].length), es.flatten[k] = es[k / sz][k % sz]
  | [], h, k, hk, _ => by simp at hk
  | e :: es, h, k, hk, h0 => by
    have he : e.length = sz := h 0 (by simp)
    by_cases hlt : k < sz
    · have hd : k / sz = 0 := Nat.div_eq_of_lt hlt
      have hm : k % sz = k := Nat.mod_eq_of_lt hlt
      refine ⟨by rw [hd]; simp, by simp only [hd, hm]; simpa [he] using hlt, ?_⟩
      simp only [List.flatten_cons]
      rw [List.getElem_append_left (by omega)]
      simp only [hd, hm, List.getElem_cons_zero]
    · obtain ⟨k', rfl⟩ : ∃ k', k = k' + sz := ⟨k - sz, by omega⟩
      have hd : (k' + sz) / sz = k' / sz + 1 := Nat.add_div_right k' h0
      have hm : (k' + sz) % sz = k' % sz := Nat.add_mod_right k' sz
      obtain ⟨h1, h2, h3⟩ := flatten_get es (fun i hi => h (i + 1) (by simpa using hi)) k' (by rw [List.flatten_cons, List.length_append, he] at hk; omega) h0
      refine ⟨by rw [hd]; simpa using h1, by simp only [hd, hm]; simpa using h2, ?_⟩
      simp only [List.flatten_cons]
      rw [List.getElem_append_right (by omega)]
      simp only [hd, hm, List.getElem_cons_succ]
      rw [← h3]
      congr 1
      omega

theorem flatten_length {α : Type} {sz : Nat} : ∀ (es : List (List α)), (∀ i (hi : i < es.length), es[i].length = sz) → es.flatten.length = es.length * sz
  | [], _ => by simp
  | e :: es, h => by
    have he : e.length = sz := h 0 (by simp)
    have := flatten_length es (fun i hi => h (i + 1) (by simpa using hi))
    simp only [List.flatten_cons, List.length_append, List.length_cons, he, this, Nat.add_mul]
    omega

/-- A slice that is read, as cells. -/
theorem CellsAt.sl {S : SM} {ι : NM} {hp : HP} {w : World} (hr : HR S ι hp w) {b o sz : Nat} {es : List (List AV)} {f : Nat → Nat → Value} (h0 : 0 < sz) (h1 : ∀ i (hi : i < es.length), es[i].length = sz)
    (h2 : ∀ i j, i < es.length → j < sz → scell S b (o + (i * sz + j)) = some (f i j)) (h3 : ∀ i j (hi : i < es.length) (hj : j < es[i].length), V S es[i][j] (f i j)) : CellsAt S ι w b o es.flatten := by
  refine CellsAt.mk (fun k => f (k / sz) (k % sz)) (fun k hk => ?_) (fun k hk => ?_)
  · obtain ⟨a1, a2, _⟩ := flatten_get es h1 k hk h0
    have := hr.cell (h2 (k / sz) (k % sz) a1 (Nat.mod_lt _ h0))
    have e : k / sz * sz + k % sz = k := by rw [Nat.mul_comm]; exact Nat.div_add_mod k sz
    rw [e] at this
    exact this
  · obtain ⟨a1, a2, a3⟩ := flatten_get es h1 k hk h0
    rw [a3]
    exact .v (h3 _ _ a1 a2)

theorem CellsAt.load {P : Program} {S : SM} {ι : NM} {w : World} {b o : Nat} {cs : List AV} (h : CellsAt S ι w b o cs) :
    ∃ vs : List Value, vs.length = cs.length ∧ (∀ j (h1 : j < cs.length) (h2 : j < vs.length), VT S ι cs[j] vs[j]) ∧
      ∀ n, n ≤ cs.length → ∀ w' : World, w'.heap = w.heap → (loadCells ⟨b, o, none⟩ n).run P w' = .ok (vs.take n).toArray w' := by
  obtain ⟨vs, h1, h2, h3⟩ := h
  refine ⟨vs, h1, h3, fun n hn w' hw' => ?_⟩
  have := run_loadCells_list (P := P) w' ⟨b, o, none⟩ (vs.take n) (fun j v hj => by
    rw [addr_add]
    have hlt : j < (vs.take n).length := (List.getElem?_eq_some_iff.1 hj).1
    have hc := h2 j (by simp at hlt; omega)
    have hcell : w'.cell? ⟨b, o + j, none⟩ = w.cell? ⟨b, o + j, none⟩ := by simp [World.cell?, hw']
    rw [hcell, hc]
    have he := (List.getElem?_eq_some_iff.1 hj).2
    rw [List.getElem_take] at he
    rw [he])
  have hlen : (vs.take n).length = n := by simp [h1]; omega
  rw [hlen] at this
  exact this

section
variable {P : Program} {tt : TypeId → Option TI} (hT : TTok P tt)
include hT

theorem zero_ok {t : TypeId} {i : TI} (h : tt t = some i) {zs : List AV} (hz : cellsOf i.zero = some zs) : ∃ info z, P.info? t = some info ∧ info.size = i.size ∧ info.bytes = i.bytes ∧ info.zero = some z ∧ z.cells.size = i.size ∧
    zs.length = i.size ∧ ∀ S ι, ∀ j (hj : j < zs.length) (hk : j < z.cells.size), VT S ι zs[j] z.cells[j] := by
  obtain ⟨info, z, h1, h2, h3, h4, h5, h6⟩ := (hT t i h).info
  rcases h6 with h6 | h6
  · rw [h6] at hz; simp [cellsOf] at hz
  · refine ⟨info, z, h1, h2, h3, h4, h5, ?_, fun S ι j hj hk => ?_⟩
    · have := (VT.v (ι := fun _ => none) (h6 (fun _ => none))).cells hz
      rw [this.1]; simpa using h5
    · have := (VT.v (ι := ι) (h6 S)).cells hz
      have := this.2 j hj (by simpa using hk)
      simpa using this

theorem allocA_ok {fresh : Nm} {S : SM} {ι : NM} {hp : HP} {w : World} (hr : HR S ι hp w) (hf : ι fresh = none) {t : TypeId} {v : AV} {ch : Ch} (hv : allocA tt t fresh = some (v, ch)) :
    ∃ val ι' w', (Instr.alloc t true (.tuple #[])).run P w = .ok val w' ∧ VT S ι' v val ∧ Mv fresh S ι hp w S ι' (chg hp ch) w' := by
  unfold allocA at hv
  cases ht : tt t with
  | none => rw [ht] at hv; cases hv
  | some ti =>
    rw [ht] at hv
    simp only at hv
    split at hv
    · rename_i zs hzs
      cases hv
      obtain ⟨info, z, h1, h2, h3, h4, h5, h6, h7⟩ := zero_ok hT ht hzs
      refine ⟨.pointer (some ⟨w.heap.size, 0, none⟩), updN ι fresh ⟨w.heap.size, z.cells.size⟩, w.alloc (.cells z.cells t), ?_, ?_, ?_⟩
      · simp [Instr.alloc, zeroValue, typeInfo, h1, h4, newVar, newRow]
      · exact .ref fresh 0 ⟨w.heap.size, z.cells.size⟩ (by simp [updN])
      · exact Mv.alloc hr fresh zs z.cells t hf (by omega) (fun i hi hj => h7 S ι i hi hj)
    · cases hv

omit hT in
theorem boxA_ok {fresh : Nm} {S : SM} {ι : NM} {hp : HP} {w : World} (hr : HR S ι hp w) (hf : ι fresh = none) (t : TypeId) {x v : AV} {ch : Ch} (hv : boxA fresh x = some (v, ch)) {xv : Value} (hx : VT S ι x xv) :
    ∃ val ι' w', (Instr.box t xv).run P w = .ok val w' ∧ VT S ι' v val ∧ Mv fresh S ι hp w S ι' (chg hp ch) w' := by
  unfold boxA at hv
  split at hv
  · rename_i xs hxs
    cases hv
    obtain ⟨e1, e2⟩ := hx.cells hxs
    refine ⟨.pointer (some ⟨w.heap.size, 0, none⟩), updN ι fresh ⟨w.heap.size, xv.cells.size⟩, w.alloc (.cells xv.cells t), ?_, ?_, ?_⟩
    · simp [Instr.box, newVar, newRow]
    · exact .ref fresh 0 ⟨w.heap.size, xv.cells.size⟩ (by simp [updN])
    · exact Mv.alloc hr fresh xs xv.cells t hf (by simp [e1]) (fun i hi hj => by have := e2 i hi (by simpa using hj); rwa [Array.getElem_toList] at this)
  · cases hv

theorem makeA_ok {fresh : Nm} {S : SM} {ι : NM} {hp : HP} {w : World} (hr : HR S ι hp w) (hf : ι fresh = none) {t : TypeId} {l c v : AV} {ch : Ch} (hv : makeA tt t fresh l c = some (v, ch)) {lv cv : Value} (hl : VT S ι l lv) (hc : VT S ι c cv) :
    ∃ val ι' w', (Instr.makeSlice t lv cv).run P w = .ok val w' ∧ VT S ι' v val ∧ Mv fresh S ι hp w S ι' (chg hp ch) w' := by
  unfold makeA at hv
  cases ht : tt t with
  | none => rw [ht] at hv; cases hv
  | some ti =>
    rw [ht] at hv
    simp only at hv
    obtain ⟨d, hd, hdo⟩ := (hT t ti ht).under
    split at hv
    · rename_i e he
      cases hte : tt e with
      | none => rw [hte] at hv; cases hv
      | some te =>
        rw [hte] at hv
        simp only at hv
        split at hv
        · rename_i kl l' kc c' zs hz
          split at hv
          · rename_i hcond
            obtain ⟨c1, c2, c3, c4, c5, c6⟩ := hcond
            cases hv
            obtain ⟨info, z, h1, h2, h3, h4, h5, h6, h7⟩ := zero_ok hT hte hz
            rw [he] at hdo
            simp only [descOk] at hdo
            subst hdo
            have := hl.int_inv; subst this
            have := hc.int_inv; subst this
            have hb : (info.bytes : Int) * c' ≤ 281474976710656 := by rw [h3, Int.mul_comm]; omega
            have hc63 : c' ≤ 9223372036854775807 := by
              have : c' * 1 ≤ c' * (te.bytes : Int) := Int.mul_le_mul_of_nonneg_left (by omega) (by omega)
              omega
            have hrun := run_make (P := P) w t e info z hd h1 h4 kl kc l' c' c1 c2 hb hc63
            refine ⟨_, updN ι fresh ⟨w.heap.size, (madeCells z.cells (c'.toNat * info.size)).size⟩, _, hrun, ?_, ?_⟩
            · exact .arr fresh 0 l'.toNat te.size ⟨w.heap.size, (madeCells z.cells (c'.toNat * info.size)).size⟩ 0 c'.toNat (by simp [updN]) (by omega) (by simp [size_madeCells, h2]) (fun _ => rfl)
            · refine Mv.alloc hr fresh _ _ e hf ?_ ?_
              · rw [size_madeCells, flatten_rep_length, c6, h2]
                exact Nat.mul_le_mul_right _ (by omega)
              · intro i hi hj
                have hz0 : 0 < zs.length := by omega
                rw [flatten_rep_get zs _ i hi hz0]
                have hlt : i % z.cells.size < z.cells.size := Nat.mod_lt _ (by omega)
                have := h7 S ι (i % zs.length) (Nat.mod_lt _ hz0) (by rw [c6, ← h5]; exact hlt)
                have hidx : i % zs.length = i % z.cells.size := by rw [c6, h5]
                simp only [madeCells, Array.getElem_map, Array.getElem_range]
                simp only [hidx] at this ⊢
                simpa [hlt] using this
          · cases hv
        · cases hv
    · cases hv

end
end Go.Ab
