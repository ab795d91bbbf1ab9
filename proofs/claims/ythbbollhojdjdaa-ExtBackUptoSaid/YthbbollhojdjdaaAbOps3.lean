/- THE ABSTRACT MACHINE, 5: stores; arrays that are written no more (seals); slices as values. Conditions: the table of types is the program's. -/
import Derived.Test.YthbbollhojdjdaaAbOps2
namespace Go.Ab
set_option linter.unusedSimpArgs false

theorem VT.one_all {S : SM} {ι : NM} {xs : List AV} {vs : List Value} (hl : xs.length = vs.length) (h : ∀ i (hi : i < xs.length) (hj : i < vs.length), VT S ι xs[i] vs[i]) (ho : xs.all one = true) :
    ∀ v ∈ vs, v.oneCell' = true := by
  intro v hv
  obtain ⟨i, hi, rfl⟩ := List.mem_iff_getElem.1 hv
  have := h i (by omega) hi
  exact this.oneCell (by simpa using List.all_eq_true.1 ho _ (List.getElem_mem (by omega)))

section
variable {P : Program} {tt : TypeId → Option TI} (hT : TTok P tt)
include hT

theorem storeA_ok {fresh : Nm} {S : SM} {ι : NM} {hp : HP} {w : World} (hr : HR S ι hp w) {t : TypeId} {p x v : AV} {ch : Ch} (hv : storeA tt t p x hp = some (v, ch)) {pv xv : Value} (hp' : VT S ι p pv) (hx : VT S ι x xv) :
    ∃ w', (Instr.storeAt t pv xv).run P w = .ok () w' ∧ v = .tup [] ∧ Mv fresh S ι hp w S ι (chg hp ch) w' := by
  unfold storeA at hv
  cases ht : tt t with
  | none => rw [ht] at hv; cases hv
  | some ti =>
    rw [ht] at hv
    simp only at hv
    split at hv
    · rename_i nm off
      cases ho : hp nm with
      | none => rw [ho] at hv; cases hv
      | some ob =>
        rw [ho] at hv
        simp only at hv
        cases hc : cellsOf x with
        | none => rw [hc] at hv; cases hv
        | some xs =>
          rw [hc] at hv
          simp only at hv
          split at hv
          · rename_i hcond
            obtain ⟨c1, c2, c3, c4⟩ := hcond
            cases hv
            obtain ⟨l, hl, rfl⟩ := hp'.ref_inv
            obtain ⟨l0, c, e, q1, q2, q3, q4, q5, q6⟩ := hr.o_ok nm ob ho
            rw [hl] at q1; cases q1
            obtain ⟨hlen, hvs⟩ := hx.cells hc
            have hone := VT.one_all hlen hvs c4
            have hst := run_storeCells_at (P := P) l.blk off e xv.cells.toList 0 c w q2 (by omega) hone
            refine ⟨w.setRow l.blk (overV c off xv.cells.toList), ?_, rfl, ?_⟩
            · have hsz : xv.cells.size = ti.size := by rw [← c2, hlen]; simp
              simp only [Nat.add_zero] at hst
              simp [Instr.storeAt, Instr.sureAddr, storeVar, run_sizeOf hT ht, hsz, hst, overV]
            · exact Mv.store hr nm ob ho c1 l hl _ _ (by rw [overV_size (by omega)]; exact q3) (by rw [over_length c3, overV_size (by omega)]; exact q4) (over_VT q4 c3 hlen q5 hvs)
          · cases hv
    · cases hv

end

/-- Sealed: what an object's block holds, for ever. -/
def Sealed (S : SM) (ι : NM) (nm : Nm) (cs : List AV) : Prop :=
  ∃ l c e, ι nm = some l ∧ S l.blk = some (.cells c e (0, 0)) ∧ c.size = l.ext ∧ cs.length ≤ c.size ∧ ∀ i (hi : i < cs.length) (hj : i < c.size), VT S ι cs[i] c[i]

theorem Sealed.mono {S S' : SM} {ι : NM} {nm : Nm} {cs : List AV} (h : Sealed S ι nm cs) (hs : SLe S S') : Sealed S' ι nm cs := by
  obtain ⟨l, c, e, h1, h2, h3, h4, h5⟩ := h
  exact ⟨l, c, e, h1, hs _ _ h2, h3, h4, fun i hi hj => (h5 i hi hj).mono hs (ILe.refl _)⟩

theorem chunk_length (sz : Nat) : ∀ (n : Nat) (cs : List AV), (chunk sz n cs).length = n
  | 0, _ => rfl
  | n + 1, cs => by simp [chunk, chunk_length sz n]

theorem chunk_get (sz : Nat) : ∀ (n : Nat) (cs : List AV) (i : Nat) (hi : i < (chunk sz n cs).length), (chunk sz n cs)[i] = (cs.drop (i * sz)).take sz
  | n + 1, cs, 0, _ => by simp [chunk]
  | n + 1, cs, i + 1, hi => by
    simp only [chunk, List.getElem_cons_succ]
    rw [chunk_get sz n _ i (by simpa [chunk] using hi), List.drop_drop]
    congr 2
    rw [Nat.add_mul]; omega

theorem chunk_get_length {sz n : Nat} {cs : List AV} (h : n * sz ≤ cs.length) (i : Nat) (hi : i < (chunk sz n cs).length) : (chunk sz n cs)[i].length = sz := by
  rw [chunk_get]
  rw [chunk_length] at hi
  have : (i + 1) * sz ≤ n * sz := Nat.mul_le_mul_right _ hi
  rw [Nat.add_mul] at this
  simp; omega

/-- Cells in memory that stays, as a slice. -/
theorem V.of_cells {S : SM} {ι : NM} {b o : Nat} {e : TypeId} {fz : Nat × Nat} {c : Array Value} (hS : S b = some (.cells c e fz)) {sz len cap : Nat} {cs : List AV} (full : Bool)
    (hlen : len * sz ≤ cs.length) (hcap : len ≤ cap) (hf : full = true → cap = len) (hin : 0 < len → o + cs.length ≤ c.size) (hn : nf.nfs cs = true)
    (hv : ∀ i (hi : i < cs.length) (hj : o + i < c.size), VT S ι cs[i] c[o + i]) : V S (.sl false sz (chunk sz len cs) full) (.slice (some ⟨b, o, none⟩) len cap) := by
  have hcl := chunk_length sz len cs
  have := V.sl (S := S) sz (chunk sz len cs) full b o cap (fun i j => c.getD (o + (i * sz + j)) undef) (by rw [hcl]; exact hcap) (by rw [hcl]; exact hf) (fun i hi => chunk_get_length hlen i hi) ?_ ?_
  · rw [hcl] at this; exact this none (fun _ => rfl)
  · intro i j hi hj
    rw [hcl] at hi
    have h1 : (i + 1) * sz ≤ len * sz := Nat.mul_le_mul_right _ hi
    rw [Nat.add_mul] at h1
    have h2 := hin (by omega)
    have h3 : o + (i * sz + j) < c.size := by omega
    simp [scell, hS, Array.getD, h3]
  · intro i j hi hj
    rw [chunk_get_length hlen i hi] at hj
    rw [hcl] at hi
    have h1 : (i + 1) * sz ≤ len * sz := Nat.mul_le_mul_right _ hi
    rw [Nat.add_mul] at h1
    have h2 := hin (by omega)
    have h3 : o + (i * sz + j) < c.size := by omega
    have h4 : i * sz + j < cs.length := by omega
    have hg : (chunk sz len cs)[i][j] = cs[i * sz + j] := by
      simp only [chunk_get, List.getElem_take, List.getElem_drop]
    rw [hg]
    have := (hv (i * sz + j) h4 h3).pure (nfs_get hn _ h4)
    simpa [Array.getD, h3] using this

theorem nfs_take : ∀ {l : List AV} (n : Nat), nf.nfs l = true → nf.nfs (l.take n) = true
  | [], n, h => by simp [nf.nfs]
  | a :: l, 0, h => by simp [nf.nfs]
  | a :: l, n + 1, h => by
    simp only [nf.nfs, Bool.and_eq_true] at h
    simp only [List.take_succ_cons, nf.nfs, Bool.and_eq_true]
    exact ⟨h.1, nfs_take n h.2⟩

theorem sealA_V {S : SM} {ι : NM} {hp : HP} {nm : Nm} {off len sz : Nat} {s : AV} (hs : sealA hp nm off len sz = some s) {ob : Ob} (hob : hp nm = some ob) (hse : Sealed S ι nm ob.cs) {o cap : Nat} {l : Loc}
    (hl : ι nm = some l) (hcap : len ≤ cap) (ho : 0 < cap → o = off) : V S s (.slice (some ⟨l.blk, o, none⟩) len cap) := by
  unfold sealA at hs
  rw [hob] at hs
  simp only [arrCells] at hs
  split at hs
  · rename_i cs hcs
    split at hcs
    · rename_i hcond
      obtain ⟨h1, h2⟩ := hcond
      split at hs
      · rename_i hn
        cases hs
        obtain ⟨l0, c, e, q1, q2, q3, q4, q5⟩ := hse
        rw [hl] at q1; cases q1
        have hcl : cs.length = len * sz := by cases hcs; simp; omega
        have hce : cs = (ob.cs.drop off).take (len * sz) := by cases hcs; rfl
        by_cases hc0 : 0 < cap
        · have := ho hc0; subst this
          refine V.of_cells (ι := ι) q2 false (by omega) hcap (by simp) (fun _ => by omega) hn (fun i hi hj => ?_)
          have hi2 : i < len * sz := by omega
          have := q5 (o + i) (by omega) hj
          subst hce
          simp only [List.getElem_take, List.getElem_drop]
          exact this
        · have hl0 : len = 0 := by omega
          subst hl0
          exact V.of_cells (ι := ι) q2 false (by omega) hcap (by simp) (fun h => absurd h (by omega)) hn (fun i hi hj => by omega)
      · cases hs
    · cases hcs
  · cases hs

theorem sealA_ob {hp : HP} {nm : Nm} {off len sz : Nat} {s : AV} (hs : sealA hp nm off len sz = some s) : ∃ ob, hp nm = some ob := by
  unfold sealA at hs
  cases h : hp nm with
  | none => rw [h] at hs; cases hs
  | some ob => exact ⟨ob, rfl⟩

theorem sealCh_same {hp : HP} {nm : Nm} {ob : Ob} (hob : hp nm = some ob) : ∀ ns, sealCh (updH hp nm (some ⟨ob.cs, false⟩)) ns = sealCh hp ns
  | [] => rfl
  | n :: l => by
    simp only [sealCh]
    by_cases hne : n = nm
    · subst hne
      simp [updH, hob, sealCh_same hob l]
    · simp [updH, hne, sealCh_same hob l]

theorem sealAll {fresh : Nm} {w : World} : ∀ (ns : List Nm) {S : SM} {ι : NM} {hp : HP}, HR S ι hp w →
    ∃ S', Mv fresh S ι hp w S' ι (chg hp (sealCh hp ns)) w ∧ ∀ nm ∈ ns, ∀ ob, hp nm = some ob → Sealed S' ι nm ob.cs
  | [], S, ι, hp, h => ⟨S, Mv.refl h, fun _ hm => by cases hm⟩
  | n :: l, S, ι, hp, h => by
    cases ho : hp n with
    | none =>
      obtain ⟨S', h1, h2⟩ := sealAll l h
      refine ⟨S', by simpa [sealCh, ho] using h1, fun nm hm ob hob => ?_⟩
      rcases List.mem_cons.1 hm with rfl | hm
      · rw [ho] at hob; cases hob
      · exact h2 nm hm ob hob
    | some ob0 =>
      obtain ⟨S1, l1, c, e, g1, g2, g3, g4, g5, g6⟩ := Mv.shutIt (fresh := fresh) h n ob0 ho
      obtain ⟨S', h1, h2⟩ := sealAll l g1.hr
      rw [sealCh_same ho] at h1
      refine ⟨S', ?_, fun nm hm ob hob => ?_⟩
      · simp only [sealCh, ho, chg]
        exact g1.trans h1
      · by_cases hne : nm = n
        · subst hne
          rw [ho] at hob; cases hob
          exact Sealed.mono ⟨l1, c, e, g2, g3, g4, g5, g6⟩ h1.sle
        · rcases List.mem_cons.1 hm with rfl | hm
          · exact absurd rfl hne
          · exact h2 nm hm ob (by simp [updH, hne, hob])

theorem sealGo_V {S S' : SM} {ι : NM} {hp : HP} (hle : SLe S S') : ∀ {l l' : List AV} {ns : List Nm}, sealV.go hp l = some (l', ns) → (∀ nm ∈ ns, ∀ ob, hp nm = some ob → Sealed S' ι nm ob.cs) →
    ∀ {vs : List Value}, l.length = vs.length → (∀ i (hi : i < l.length) (hj : i < vs.length), VT S ι l[i] vs[i]) → l'.length = vs.length ∧ ∀ i (hi : i < l'.length) (hj : i < vs.length), V S' l'[i] vs[i]
  | [], l', ns, h, _, vs, hl, _ => by
    simp only [sealV.go, Option.some.injEq, Prod.mk.injEq] at h
    obtain ⟨rfl, rfl⟩ := h
    exact ⟨hl, fun i hi => by simp at hi⟩
  | a :: l, l', ns, h, hs, [], hl, _ => by simp at hl
  | a :: l, l', ns, h, hs, v :: vs, hl, hv => by
    simp only [sealV.go] at h
    split at h
    · rename_i b ms hb
      split at h
      · rename_i r rs hgo
        cases h
        have h0 : VT S ι a v := hv 0 (by simp) (by simp)
        have hV : V S' b v := by
          split at hb
          · rename_i hn
            cases hb
            exact (h0.pure hn).mono hle
          · split at hb
            · rename_i nm off len sz hnn
              split at hb
              · rename_i s hse
                cases hb
                obtain ⟨ob, hob⟩ := sealA_ob hse
                obtain ⟨lc, o, cap, q1, rfl, q3, q4, q5⟩ := h0.arr_inv
                exact sealA_V hse hob (hs nm (by simp) ob hob) q1 q3 q5
              · cases hb
            · cases hb
        obtain ⟨e1, e2⟩ := sealGo_V (S := S) hle hgo (fun nm hm => hs nm (by simp [hm])) (vs := vs) (by simpa using hl) (fun i hi hj => hv (i + 1) (by simpa using hi) (by simpa using hj))
        refine ⟨by simp [e1], fun i hi hj => ?_⟩
        cases i with
        | zero => exact hV
        | succ i => exact e2 i (by simpa using hi) (by simpa using hj)
      · cases h
    · cases h

theorem sealV_V {S S' : SM} {ι : NM} {hp : HP} (hle : SLe S S') {a b : AV} {ns : List Nm} (h : sealV hp a = some (b, ns)) (hs : ∀ nm ∈ ns, ∀ ob, hp nm = some ob → Sealed S' ι nm ob.cs) {v : Value} (hv : VT S ι a v) : V S' b v := by
  unfold sealV at h
  split at h
  · rename_i hn
    cases h
    exact (hv.pure hn).mono hle
  · split at h
    · rename_i nm off len sz hnn
      split at h
      · rename_i s hse
        cases h
        obtain ⟨ob, hob⟩ := sealA_ob hse
        obtain ⟨lc, o, cap, q1, rfl, q3, q4, q5⟩ := hv.arr_inv
        exact sealA_V hse hob (hs nm (by simp) ob hob) q1 q3 q5
      · cases h
    · split at h
      · rename_i l ms hgo
        cases h
        obtain ⟨vs, rfl, h1, h2⟩ := hv.agg_inv
        obtain ⟨e1, e2⟩ := sealGo_V (S := S) hle hgo hs h1 h2
        exact .agg _ _ e1 e2
      · cases h
    · cases h

end Go.Ab
