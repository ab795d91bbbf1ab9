/- THE ABSTRACT MACHINE, 7: literals, append, copy. Conditions: the table of types is the program's. -/
import Derived.Test.YthbbollhojdjdaaAbOps4
namespace Go.Ab
set_option linter.unusedSimpArgs false

/-- An object under a new name. -/
theorem Mv.rename {S : SM} {ι : NM} {hp : HP} {w : World} (h : HR S ι hp w) (nm fresh : Nm) (ob : Ob) (hob : hp nm = some ob) (l : Loc) (hl : ι nm = some l) (hf : ι fresh = none) :
    Mv fresh S ι hp w S (updN ι fresh l) (updH (updH hp nm none) fresh (some ob)) w := by
  have hne : nm ≠ fresh := fun e => by subst e; rw [hl] at hf; cases hf
  have back : ∀ n o l', updH (updH hp nm none) fresh (some ob) n = some o → updN ι fresh l n = some l' →
      (n = fresh ∧ o = ob ∧ l' = l) ∨ (n ≠ fresh ∧ n ≠ nm ∧ hp n = some o ∧ ι n = some l') := by
    intro n o l' h1 h2
    by_cases e : n = fresh
    · subst e; simp only [updH, updN, if_true, Option.some.injEq] at h1 h2; exact .inl ⟨rfl, h1.symm, h2.symm⟩
    · simp only [updH, updN, if_neg e] at h1 h2
      by_cases e2 : n = nm
      · subst e2; simp at h1
      · simp only [if_neg e2] at h1; exact .inr ⟨e, e2, h1, h2⟩
  refine ⟨SLe.refl _, updN_le hf, ⟨h.s_ok, ?_, ?_⟩, rfl, rfl, rfl, Nat.le_refl _, fun _ _ _ => rfl, fun _ _ h => .inl h, ?_, ?_⟩
  · intro n o hn
    by_cases e : n = fresh
    · subst e
      simp only [updH, if_true, Option.some.injEq] at hn
      subst hn
      obtain ⟨l1, c, e1, q1, q2, q3, q4, q5, q6⟩ := h.o_ok nm ob hob
      rw [hl] at q1; cases q1
      exact ⟨l, c, e1, by simp [updN], q2, q3, q4, fun i hi hj => (q5 i hi hj).mono (SLe.refl _) (updN_le hf), q6⟩
    · simp only [updH, if_neg e] at hn
      by_cases e2 : n = nm
      · subst e2; simp at hn
      · simp only [if_neg e2] at hn
        obtain ⟨l1, c, e1, q1, q2, q3, q4, q5, q6⟩ := h.o_ok n o hn
        exact ⟨l1, c, e1, by simp [updN, e, q1], q2, q3, q4, fun i hi hj => (q5 i hi hj).mono (SLe.refl _) (updN_le hf), q6⟩
  · intro n1 n2 o1 o2 l1 l2 g1 g2 k1 k2 hb
    rcases back n1 o1 l1 g1 k1 with ⟨rfl, rfl, rfl⟩ | ⟨a1, a2, a3, a4⟩ <;> rcases back n2 o2 l2 g2 k2 with ⟨rfl, rfl, rfl⟩ | ⟨b1, b2, b3, b4⟩
    · rfl
    · exact absurd (h.inj n2 nm o2 o1 l2 l1 b3 hob b4 hl hb.symm) b2
    · exact absurd (h.inj n1 nm o1 o2 l1 l2 a3 hob a4 hl hb) a2
    · exact h.inj n1 n2 o1 o2 l1 l2 a3 b3 a4 b4 hb
  · rintro b ⟨n, o, l', g1, g2, g3, rfl⟩
    rcases back n o l' g1 g3 with ⟨rfl, rfl, rfl⟩ | ⟨a1, a2, a3, a4⟩
    · exact .inr ⟨nm, o, l', hob, g2, hl, rfl⟩
    · exact .inr ⟨n, o, l', a3, g2, a4, rfl⟩
  · intro n hn
    by_cases e : n = fresh
    · exact .inr e
    · simp only [updN, if_neg e] at hn; exact .inl hn

theorem partsA_ok {S S' : SM} {ι : NM} {hp : HP} (hle : SLe S S') {place : Nat → Option (Nat × Nat)} (size : Nat) (hpl : ∀ i, place i = some (i * size, size)) :
    ∀ {ps ps' : List (Nat × AV)} {ns : List Nm} {pv : List (Nat × Value)}, partsA hp ps = some (ps', ns) → (∀ nm ∈ ns, ∀ ob, hp nm = some ob → Sealed S' ι nm ob.cs) →
      ps.length = pv.length → (∀ i (h1 : i < ps.length) (h2 : i < pv.length), ps[i].1 = pv[i].1 ∧ VT S ι ps[i].2 pv[i].2) →
      Parts S' ι place (ps'.map fun (i, x) => (i * size, size, x)) pv
  | [], ps', ns, pv, h, _, hl, _ => by
    simp only [partsA, Option.some.injEq, Prod.mk.injEq] at h
    obtain ⟨rfl, rfl⟩ := h
    cases pv with
    | nil => exact .nil
    | cons _ _ => simp at hl
  | (i, x) :: l, ps', ns, [], h, _, hl, _ => by simp at hl
  | (i, x) :: l, ps', ns, (j, v) :: pv, h, hs, hl, hv => by
    simp only [partsA] at h
    split at h
    · cases h
    · rename_i a ms hse
      split at h
      rotate_left
      · cases h
      · rename_i r rs hr
        cases h
        have h0 := hv 0 (by simp) (by simp)
        simp only [List.getElem_cons_zero] at h0
        obtain ⟨rfl, h0⟩ := h0
        refine .cons (hpl i) (.v (sealV_V hle hse (fun nm hm => hs nm (by simp [hm])) h0)) ?_
        exact partsA_ok hle size hpl hr (fun nm hm => hs nm (by simp [hm])) (by simpa using hl) (fun i h1 h2 => hv (i + 1) (by simpa using h1) (by simpa using h2))

theorem parts_plain {S : SM} {ι : NM} {place : Nat → Option (Nat × Nat)} (size : Nat) (hpl : ∀ i, place i = some (i * size, size)) :
    ∀ {ps : List (Nat × AV)} {pv : List (Nat × Value)}, ps.length = pv.length → (∀ i (h1 : i < ps.length) (h2 : i < pv.length), ps[i].1 = pv[i].1 ∧ VT S ι ps[i].2 pv[i].2) →
      Parts S ι place (ps.map fun (i, x) => (i * size, size, x)) pv
  | [], [], _, _ => .nil
  | [], _ :: _, hl, _ => by simp at hl
  | _ :: _, [], hl, _ => by simp at hl
  | (i, x) :: l, (j, v) :: pv, hl, hv => by
    have h0 := hv 0 (by simp) (by simp)
    simp only [List.getElem_cons_zero] at h0
    obtain ⟨rfl, h0⟩ := h0
    exact .cons (hpl i) h0 (parts_plain size hpl (by simpa using hl) (fun i h1 h2 => hv (i + 1) (by simpa using h1) (by simpa using h2)))

section
variable {P : Program} {tt : TypeId → Option TI} (hT : TTok P tt)
include hT

omit hT in
theorem places_ok {S : SM} {ι : NM} {fs : List (Nat × TypeId)} {place : Nat → Option (Nat × Nat)} (hpl : ∀ i off ft fi, fs[i]? = some (off, ft) → tt ft = some fi → place i = some (off, fi.size)) :
    ∀ {ps : List (Nat × AV)} {qs : List (Nat × Nat × AV)} {pv : List (Nat × Value)}, buildA.placesA tt fs ps = some qs → ps.length = pv.length →
      (∀ i (h1 : i < ps.length) (h2 : i < pv.length), ps[i].1 = pv[i].1 ∧ VT S ι ps[i].2 pv[i].2) → Parts S ι place qs pv
  | [], qs, [], h, _, _ => by simp only [buildA.placesA, Option.some.injEq] at h; subst h; exact .nil
  | [], _, _ :: _, _, hl, _ => by simp at hl
  | _ :: _, _, [], _, hl, _ => by simp at hl
  | (i, x) :: l, qs, (j, v) :: pv, h, hl, hv => by
    have h0 := hv 0 (by simp) (by simp)
    simp only [List.getElem_cons_zero] at h0
    obtain ⟨rfl, h0⟩ := h0
    simp only [buildA.placesA] at h
    split at h
    · cases h
    · rename_i off ft hft
      split at h
      · cases h
      · rename_i fi hfi
        split at h
        · rename_i r hr
          cases h
          exact .cons (hpl _ _ _ _ hft hfi) h0 (places_ok hpl hr (by simpa using hl) (fun i h1 h2 => hv (i + 1) (by simpa using h1) (by simpa using h2)))
        · cases h

theorem buildA_ok {S : SM} {ι : NM} {w : World} {t : TypeId} {ps : List (Nat × AV)} {v : AV} (hv : buildA tt t ps = some v) {pv : Array (Nat × Value)} (hl : ps.length = pv.size)
    (hp : ∀ i (h1 : i < ps.length) (h2 : i < pv.size), ps[i].1 = pv[i].1 ∧ VT S ι ps[i].2 pv[i].2) :
    ∃ val, (Instr.build t pv).run P w = .ok val w ∧ VT S ι v val := by
  unfold buildA at hv
  cases ht : tt t with
  | none => rw [ht] at hv; cases hv
  | some ti =>
    rw [ht] at hv
    simp only at hv
    split at hv
    · cases hv
    · rename_i zs hzs
      obtain ⟨info, z, h1, h2, h3, h4, h5, h6, h7⟩ := zero_ok hT ht hzs
      obtain ⟨d, hd, hdo⟩ := (hT t ti ht).under
      have hp' : ∀ i (h1 : i < ps.length) (h2 : i < pv.toList.length), ps[i].1 = pv.toList[i].1 ∧ VT S ι ps[i].2 pv.toList[i].2 := fun i h1 h2 => by simpa using hp i h1 (by simpa using h2)
      have hzv : ∀ i (hi : i < zs.length) (hj : i < z.cells.size), VT S ι zs[i] z.cells[i] := fun i hi hj => h7 S ι i hi hj
      have fin : ∀ cs' (c' : Array Value), c'.size = z.cells.size → cs'.length = z.cells.size → (∀ i (hi : i < cs'.length) (hj : i < c'.size), VT S ι cs'[i] c'[i]) → VT S ι (.agg cs') (.agg c') := by
        intro cs' c' g1 g2 g3
        have := VT.agg (S := S) (ι := ι) cs' c'.toList (by simp; omega) (fun i hi hj => by have := g3 i hi (by simpa using hj); simpa using this)
        simpa using this
      split at hv
      · rename_i fs hfs
        rw [hfs] at hdo
        obtain ⟨F, rfl, hF⟩ := hdo
        have hfi := (hT t ti ht).fields F hd
        split at hv
        · rename_i qs hqs
          rw [Option.map_eq_some_iff] at hv
          obtain ⟨cs, hcs, rfl⟩ := hv
          have hplace : ∀ (i off : Nat) (ft : TypeId) (fi : TI), fs[i]? = some (off, ft) → tt ft = some fi → (F.map (fun f => (f.offset, ((P.info? f.type).map (·.size)).getD 0)))[i]? = some (off, fi.size) := by
            intro i off ft fi g1 g2
            rw [← hF] at g1
            simp only [List.getElem?_map, Option.map_eq_some_iff, Prod.mk.injEq] at g1
            obtain ⟨f, g3, rfl, rfl⟩ := g1
            have g4 : F[i]? = some f := by simpa using g3
            obtain ⟨inf, zz, k1, k2, _⟩ := (hT f.type fi g2).info
            simp [g4, k1, k2]
          have hpa := places_ok (S := S) (ι := ι) hplace hqs (pv := pv.toList) (by simpa using hl) hp'
          obtain ⟨c', g1, g2, g3, g4⟩ := fill_ok hpa hcs (by omega) hzv
          refine ⟨.agg c', ?_, fin cs c' g2 g3 g4⟩
          have hm : (F.mapM (fun f => (do let s ← sizeOf f.type; Pure.pure (f.offset, s) : Sem (Nat × Nat)))).run P w = .ok (F.map (fun f => (f.offset, ((P.info? f.type).map (·.size)).getD 0))) w := by
            refine run_array_mapM _ _ F w (fun f hf w => ?_)
            obtain ⟨inf, hinf⟩ := Option.isSome_iff_exists.1 (hfi f hf)
            simp [sizeOf, typeInfo, hinf]
          have hzv2 : (zeroValue t).run P w = .ok z w := by simp [zeroValue, typeInfo, h1, h4]
          simp only [Instr.build, Sem.run_bind, hzv2, Result.andThen_ok, run_underlying hd, hm, g1, Sem.run_pure]
        · cases hv
      · rename_i n e hfs
        rw [hfs] at hdo
        simp only [descOk] at hdo
        subst hdo
        split at hv
        · cases hv
        · rename_i te hte
          rw [Option.map_eq_some_iff] at hv
          obtain ⟨cs, hcs, rfl⟩ := hv
          have hpa := parts_plain (S := S) (ι := ι) (place := fun i => some (i * te.size, te.size)) te.size (fun i => rfl) (pv := pv.toList) (by simpa using hl) hp'
          obtain ⟨c', g1, g2, g3, g4⟩ := fill_ok hpa hcs (by omega) hzv
          refine ⟨.agg c', ?_, fin cs c' g2 g3 g4⟩
          have hzv2 : (zeroValue t).run P w = .ok z w := by simp [zeroValue, typeInfo, h1, h4]
          simp only [Instr.build, Sem.run_bind, hzv2, Result.andThen_ok, run_underlying hd, run_sizeOf hT hte, g1, Sem.run_pure]
      · cases hv

theorem buildSliceA_ok {fresh : Nm} {S : SM} {ι : NM} {hp : HP} {w : World} (hr : HR S ι hp w) {t : TypeId} {n : Nat} {ps : List (Nat × AV)} {v : AV} {ch : Ch} (hv : buildSliceA tt t n ps hp = some (v, ch)) {pv : Array (Nat × Value)} (hl : ps.length = pv.size)
    (hpp : ∀ i (h1 : i < ps.length) (h2 : i < pv.size), ps[i].1 = pv[i].1 ∧ VT S ι ps[i].2 pv[i].2) :
    ∃ val S' w', (Instr.buildSlice t n pv).run P w = .ok val w' ∧ VT S' ι v val ∧ Mv fresh S ι hp w S' ι (chg hp ch) w' := by
  unfold buildSliceA at hv
  cases ht : tt t with
  | none => rw [ht] at hv; cases hv
  | some ti =>
    rw [ht] at hv
    simp only at hv
    split at hv
    · rename_i e he
      cases hte : tt e with
      | none => rw [hte] at hv; cases hv
      | some te =>
        rw [hte] at hv
        simp only at hv
        split at hv
        · rename_i zs qs ns hzs hqs
          split at hv
          · rename_i cs hcs
            split at hv
            · rename_i hcond
              obtain ⟨c1, c2, c3, c4⟩ := hcond
              cases hv
              obtain ⟨d, hd, hdo⟩ := (hT t ti ht).under
              rw [he] at hdo
              simp only [descOk] at hdo
              subst hdo
              obtain ⟨info, z, h1, h2, h3, h4, h5, h6, h7⟩ := zero_ok hT hte hzs
              obtain ⟨S1, m1, m2⟩ := sealAll (fresh := fresh) ns hr
              have hpp' : ∀ i (h1 : i < ps.length) (h2 : i < pv.toList.length), ps[i].1 = pv.toList[i].1 ∧ VT S ι ps[i].2 pv.toList[i].2 := fun i h1 h2 => by simpa using hpp i h1 (by simpa using h2)
              have hpa := partsA_ok (S' := S1) m1.sle (place := fun i => some (i * te.size, te.size)) te.size (fun i => rfl) hqs m2 (pv := pv.toList) (by simpa using hl) hpp'
              have hz0 : 0 < zs.length := by omega
              have hzl : (List.replicate n zs).flatten.length = n * te.size := by rw [flatten_rep_length, c1]
              have hms : (madeCells z.cells (n * te.size)).size = n * te.size := size_madeCells _ _
              have hzv : ∀ i (hi : i < (List.replicate n zs).flatten.length) (hj : i < (madeCells z.cells (n * te.size)).size), VT S1 ι (List.replicate n zs).flatten[i] (madeCells z.cells (n * te.size))[i] := by
                intro i hi hj
                rw [flatten_rep_get zs n i hi hz0]
                have hlt : i % z.cells.size < z.cells.size := Nat.mod_lt _ (by omega)
                have := h7 S1 ι (i % zs.length) (Nat.mod_lt _ hz0) (by rw [c1, ← h5]; exact hlt)
                have hidx : i % zs.length = i % z.cells.size := by rw [c1, h5]
                simp only [madeCells, Array.getElem_map, Array.getElem_range]
                simp only [hidx] at this ⊢
                simpa [hlt] using this
              obtain ⟨c', g1, g2, g3, g4⟩ := fill_ok hpa hcs (by rw [hzl, hms]) hzv
              rw [hms] at g2 g3
              have k1 := Mv.keep (fresh := fresh) m1.hr (.cells c' e)
              refine ⟨.slice (some ⟨w.heap.size, 0, none⟩) n n, updS S1 w.heap.size (.cells c' e), w.alloc (.cells c' e), ?_, ?_, m1.trans k1⟩
              · have hzero : ∀ w, (zeroValue e).run P w = .ok z w := fun w => by simp [zeroValue, typeInfo, h1, h4]
                have hno : ¬ (16777216 < n * te.size) := by omega
                by_cases hn : n * te.size = 0
                · rw [hn] at g1
                  have g1' : Instr.fill (fun i => some (i * te.size, te.size)) #[] pv.toList = some c' := by
                    have e0 : madeCells z.cells 0 = #[] := by simp [madeCells, Array.range_zero']
                    rw [e0] at g1; exact g1
                  simp [Instr.buildSlice, run_underlying hd, run_sizeOf hT hte, hn, g1', newRow, Array.range_zero']
                · have g1' : Instr.fill (fun i => some (i * te.size, te.size)) ((Array.range (n * te.size)).map (z.cells[· % z.cells.size]!)) pv.toList = some c' := g1
                  simp only [Instr.buildSlice, Sem.run_bind, run_underlying hd, Result.andThen_ok, run_sizeOf hT hte]
                  rw [if_neg (by simpa using hno)]
                  simp only [if_neg hn, Sem.run_bind, hzero, Result.andThen_ok, Sem.run_pure, g1', newRow, run_newObj, World.alloc_eq]
              · refine .v (V.of_cells (ι := ι) (e := e) (fz := (0, 0)) (c := c') (by simp [updS]) true (by omega) (Nat.le_refl _) (fun _ => rfl) (fun _ => by omega) c3 (fun i hi hj => ?_))
                have := g4 i hi (by omega)
                simp only [Nat.zero_add]
                exact this.mono (k1.sle) (ILe.refl _)
            · cases hv
          · cases hv
        · cases hv
    · cases hv

end
end Go.Ab
