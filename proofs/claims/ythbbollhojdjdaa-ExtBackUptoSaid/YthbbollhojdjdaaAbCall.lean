/- THE ABSTRACT MACHINE, 13: calls. Conditions: none. -/
import Derived.Test.YthbbollhojdjdaaAbSound
namespace Go.Ab
set_option linter.unusedSimpArgs false

theorem chg_append : ∀ (a b : Ch) (hp : HP), chg hp (a ++ b) = chg (chg hp a) b
  | [], _, _ => rfl
  | (nm, o) :: a, b, hp => by simp only [List.cons_append, chg]; exact chg_append a b _

/-- The object handed in k-th. -/
def at_ (objs : List (Option (Nm × Ob))) (k : Nat) : Option (Nm × Ob) := (objs[k]?).join

theorem at_cons_zero (o : Option (Nm × Ob)) (l : List (Option (Nm × Ob))) : at_ (o :: l) 0 = o := by simp [at_, Option.join]
theorem at_cons_succ (o : Option (Nm × Ob)) (l : List (Option (Nm × Ob))) (k : Nat) : at_ (o :: l) (k + 1) = at_ l k := by simp [at_]
theorem at_nil (k : Nat) : at_ [] k = none := by simp [at_]

theorem mem_names {objs : List (Option (Nm × Ob))} {k : Nat} {nm : Nm} {o : Ob} (h : at_ objs k = some (nm, o)) : nm ∈ objs.filterMap fun o => o.map (·.1) := by
  unfold at_ at h
  cases hk : objs[k]? with
  | none => rw [hk] at h; cases h
  | some x =>
    rw [hk] at h
    simp only [Option.join_some] at h
    subst h
    exact List.mem_filterMap.2 ⟨some (nm, o), List.mem_of_getElem? hk, rfl⟩

theorem distinct_spec {ns : List Nm} : ∀ {objs : List (Option (Nm × Ob))}, distinct (objs.filterMap fun o => o.map (·.1)) ns = true →
    (∀ k k' nm o o', at_ objs k = some (nm, o) → at_ objs k' = some (nm, o') → k = k') ∧ (∀ k nm o, at_ objs k = some (nm, o) → nm ∉ ns)
  | [], _ => ⟨fun k k' nm o o' h => by simp [at_nil] at h, fun k nm o h => by simp [at_nil] at h⟩
  | none :: l, h => by
    obtain ⟨h1, h2⟩ := distinct_spec (objs := l) (by simpa [List.filterMap_cons] using h)
    refine ⟨fun k k' nm o o' a b => ?_, fun k nm o a => ?_⟩
    · cases k <;> cases k' <;> simp only [at_cons_zero, at_cons_succ] at a b <;> first | (cases a; done) | (cases b; done) | (rw [h1 _ _ _ _ _ a b])
    · cases k <;> simp only [at_cons_zero, at_cons_succ] at a <;> first | (cases a; done) | exact h2 _ _ _ a
  | some (nm0, o0) :: l, h => by
    simp only [List.filterMap_cons, Option.map_some, distinct, Bool.and_eq_true, Bool.not_eq_true', List.any_eq_false, decide_eq_true_eq] at h
    obtain ⟨⟨g1, g2⟩, g3⟩ := h
    obtain ⟨h1, h2⟩ := distinct_spec (objs := l) g3
    refine ⟨fun k k' nm o o' a b => ?_, fun k nm o a => ?_⟩
    · cases k <;> cases k' <;> simp only [at_cons_zero, at_cons_succ] at a b
      · rfl
      · cases a; exact absurd rfl (g1 _ (mem_names b))
      · cases b; exact absurd rfl (g1 _ (mem_names a))
      · rw [h1 _ _ _ _ _ a b]
    · cases k <;> simp only [at_cons_zero, at_cons_succ] at a
      · cases a; exact fun hm => absurd rfl (g2 _ hm)
      · exact h2 _ _ _ a

theorem backCh_get : ∀ {objs : List (Option (Nm × Ob))} {objs' : List (Option Ob)} (hp : HP), objs'.length = objs.length → (∀ k k' nm o o', at_ objs k = some (nm, o) → at_ objs k' = some (nm, o') → k = k') →
    (∀ k nm o, at_ objs k = some (nm, o) → chg hp (backCh objs objs') nm = (objs'[k]?).join) ∧ (∀ nm, (∀ k o, at_ objs k ≠ some (nm, o)) → chg hp (backCh objs objs') nm = hp nm)
  | [], [], hp, _, _ => ⟨fun k nm o h => by simp [at_nil] at h, fun nm _ => rfl⟩
  | [], _ :: _, _, h, _ => by simp at h
  | _ :: _, [], _, h, _ => by simp at h
  | none :: l, o' :: r, hp, hl, hd => by
    obtain ⟨h1, h2⟩ := backCh_get (objs := l) (objs' := r) hp (by simpa using hl) (fun k k' nm o o' a b => by
      have := hd (k + 1) (k' + 1) nm o o' (by rw [at_cons_succ]; exact a) (by rw [at_cons_succ]; exact b)
      omega)
    refine ⟨fun k nm o a => ?_, fun nm hn => ?_⟩
    · cases k <;> simp only [at_cons_zero, at_cons_succ] at a
      · cases a
      · simp only [backCh, List.getElem?_cons_succ]; exact h1 _ _ _ a
    · simp only [backCh]
      exact h2 nm fun k o e => hn (k + 1) o (by rw [at_cons_succ]; exact e)
  | some (nm0, ob0) :: l, o' :: r, hp, hl, hd => by
    obtain ⟨h1, h2⟩ := backCh_get (objs := l) (objs' := r) (updH hp nm0 o') (by simpa using hl) (fun k k' nm o o' a b => by
      have := hd (k + 1) (k' + 1) nm o o' (by rw [at_cons_succ]; exact a) (by rw [at_cons_succ]; exact b)
      omega)
    have hnot : ∀ k o, at_ l k ≠ some (nm0, o) := fun k o e => by
      have := hd 0 (k + 1) nm0 ob0 o (by rw [at_cons_zero]) (by rw [at_cons_succ]; exact e)
      omega
    refine ⟨fun k nm o a => ?_, fun nm hn => ?_⟩
    · cases k <;> simp only [at_cons_zero, at_cons_succ] at a
      · cases a
        simp only [backCh, chg]
        rw [h2 _ hnot]
        simp [updH, Option.join]
      · simp only [backCh, chg, List.getElem?_cons_succ]; exact h1 _ _ _ a
    · simp only [backCh, chg]
      rw [h2 nm fun k o e => hn (k + 1) o (by rw [at_cons_succ]; exact e)]
      have : nm ≠ nm0 := fun e => hn 0 ob0 (by rw [at_cons_zero, e])
      simp [updH, this]

theorem sealCh_get {hp : HP} : ∀ {ns : List Nm} {nm : Nm}, nm ∉ ns → chg hp (sealCh hp ns) nm = hp nm := by
  have gen : ∀ (ns : List Nm) (hp' : HP) (nm : Nm), nm ∉ ns → chg hp' (sealCh hp ns) nm = hp' nm := by
    intro ns
    induction ns with
    | nil => intro hp' nm _; rfl
    | cons n l ih =>
      intro hp' nm hn
      simp only [List.mem_cons, not_or] at hn
      simp only [sealCh]
      split
      · simp only [chg]
        rw [ih _ _ hn.2]
        simp [updH, hn.1]
      · exact ih _ _ hn.2
  intro ns nm h
  exact gen ns hp nm h

/-- The arguments made ready say what they said. -/
theorem prep_ok {byref : Bool} {hp : HP} : ∀ {args : List AV} {j : Nat} {pr : Pr}, prep byref hp j args = some pr →
    pr.args.length = args.length ∧ pr.objs.length = args.length ∧
    ∀ i (h1 : i < args.length) (h2 : i < pr.args.length), ∃ ns, prep1 byref hp (j + i) args[i] = some (pr.args[i], at_ pr.objs i, ns) ∧ ∀ nm ∈ ns, nm ∈ pr.ns
  | [], j, pr, h => by
    simp only [prep, Option.some.injEq] at h
    subst h
    exact ⟨rfl, rfl, fun i h1 => by simp at h1⟩
  | a :: l, j, pr, h => by
    simp only [prep] at h
    split at h
    · cases h
    · rename_i b o ns hp1
      split at h
      · rename_i pr' hpr
        cases h
        obtain ⟨g1, g2, g3⟩ := prep_ok hpr
        refine ⟨by simp [g1], by simp [g2], fun i h1 h2 => ?_⟩
        cases i with
        | zero => exact ⟨ns, by simpa [at_cons_zero] using hp1, fun nm hm => by simp [hm]⟩
        | succ i =>
          obtain ⟨ns', k1, k2⟩ := g3 i (by simpa using h1) (by simpa using h2)
          refine ⟨ns', ?_, fun nm hm => by simp [k2 nm hm]⟩
          simp only [List.getElem_cons_succ, at_cons_succ]
          rw [show j + (i + 1) = j + 1 + i from by omega]
          exact k1
      · cases h


/-- What of an argument made ready is handed in. -/
theorem prep1_obj {byref : Bool} {hp : HP} {j : Nat} {a b : AV} {nm : Nm} {ob : Ob} {ns : List Nm} (h : prep1 byref hp j a = some (b, some (nm, ob), ns)) : hp nm = some ob ∧ ob.live = true ∧ nf.nfs ob.cs = true := by
  unfold prep1 at h
  split at h
  · cases h
  · split at h
    · split at h
      · rename_i hob
        split at h
        · rename_i hc; cases h; exact ⟨hob, hc⟩
        · cases h
      · cases h
    · split at h
      · split at h
        · rename_i hob
          split at h
          · rename_i hc; cases h; exact ⟨hob, hc⟩
          · cases h
        · cases h
      · split at h
        · cases h
        · cases h
    · split at h
      · cases h
      · cases h

theorem prep1_VT {byref : Bool} {hp : HP} {j : Nat} {a b : AV} {o : Option (Nm × Ob)} {ns : List Nm} (h : prep1 byref hp j a = some (b, o, ns)) {S S' : SM} {ι ι' : NM} (hle : SLe S S') (hs : ∀ nm ∈ ns, ∀ ob, hp nm = some ob → Sealed S' ι nm ob.cs)
    (hi : ∀ nm ob, o = some (nm, ob) → ι' (.arg j) = ι nm) {v : Value} (hv : VT S ι a v) : VT S' ι' b v := by
  unfold prep1 at h
  split at h
  · rename_i hn; cases h; exact .v ((hv.pure hn).mono hle)
  · split at h
    · rename_i nm off _
      split at h
      · rename_i ob hob
        split at h
        · cases h
          obtain ⟨l, hl, rfl⟩ := hv.ref_inv
          exact .ref _ _ l (by rw [hi nm ob rfl]; exact hl)
        · cases h
      · cases h
    · rename_i nm off len sz _
      split at h
      · split at h
        · rename_i ob hob
          split at h
          · cases h
            obtain ⟨l, o', cap, q1, rfl, q3, q4, q5⟩ := hv.arr_inv
            exact .arr _ _ _ _ l o' cap (by rw [hi nm ob rfl]; exact q1) q3 q4 q5
          · cases h
        · cases h
      · split at h
        · rename_i s hse
          cases h
          obtain ⟨ob, hob⟩ := sealA_ob hse
          obtain ⟨lc, o', cap, q1, rfl, q3, q4, q5⟩ := hv.arr_inv
          exact .v (sealA_V hse hob (hs nm (by simp) ob hob) q1 q3 q5)
        · cases h
    · split at h
      · rename_i s ns' hse
        cases h
        exact .v (sealV_V hle hse hs hv)
      · cases h

/-- WHAT A CALL DOES TO THE CALLER's STATE. -/
theorem call_ok {P : Program} {fresh : Nm} {S : SM} {ι : NM} {hp : HP} {w : World} (hr : HR S ι hp w) (hf : ι fresh = none) {fid : FuncId} {byref : Bool} {args : List AV} {pr : Pr} (hpr : prep byref hp 0 args = some pr) (hdis : distinct pr.names pr.ns = true)
    {vs : List Value} (hl : vs.length = args.length) (hv : ∀ i (h1 : i < args.length) (h2 : i < vs.length), VT S ι args[i] vs[i]) {Q : List RV → List (Option Ob) → Option Ob → Prop} (hc : CallsA P fid pr.args pr.given Q) :
    Calls P fid vs.toArray w fun e w' => ∃ rs objs' ex val S' ι', Q rs objs' ex ∧ e = .returned val ∧ VT S' ι' (resA (rs.map (rvA fresh pr.objs ex))) val ∧
      Mv fresh S ι hp w S' ι' (chg hp (sealCh hp pr.ns ++ backCh pr.objs objs' ++ exCh fresh ex)) w' := by
  obtain ⟨p1, p2, p3⟩ := prep_ok hpr
  obtain ⟨d1, d2⟩ := distinct_spec hdis
  obtain ⟨S1, m1, m2⟩ := sealAll (fresh := fresh) pr.ns hr
  have hobj : ∀ k nm ob, at_ pr.objs k = some (nm, ob) → hp nm = some ob ∧ ob.live = true ∧ nf.nfs ob.cs = true := by
    intro k nm ob hk
    have hlt : k < args.length := by
      rcases Nat.lt_or_ge k args.length with hh | hh
      · exact hh
      · simp [at_, List.getElem?_eq_none (show pr.objs.length ≤ k by omega)] at hk
    obtain ⟨ns, g1, _⟩ := p3 k hlt (by omega)
    rw [hk] at g1
    exact prep1_obj g1
  have hgiven : ∀ k, (pr.given[k]?).join = (at_ pr.objs k).map (·.2) := by
    intro k
    simp only [Pr.given, at_, List.getElem?_map]
    cases pr.objs[k]? with
    | none => rfl
    | some x => cases x <;> rfl
  have hp1 : ∀ k nm ob, at_ pr.objs k = some (nm, ob) → chg hp (sealCh hp pr.ns) nm = some ob := by
    intro k nm ob hk
    rw [sealCh_get (d2 k nm ob hk)]
    exact (hobj k nm ob hk).1
  let ιc : NM := fun nm => match nm with
    | .arg k => (at_ pr.objs k).bind fun p => ι p.1
    | _ => none
  have hιc : ∀ k nm ob, at_ pr.objs k = some (nm, ob) → ιc (.arg k) = ι nm := fun k nm ob hk => by simp [ιc, hk]
  have hHR : HR S1 ιc (HPof pr.given) w := by
    have get : ∀ nm ob, HPof pr.given nm = some ob → ∃ k nm', nm = .arg k ∧ at_ pr.objs k = some (nm', ob) := by
      intro nm ob hh
      cases nm with
      | loc d i c => simp [HPof] at hh
      | arg k =>
        simp only [HPof, hgiven, Option.map_eq_some_iff] at hh
        obtain ⟨⟨nm', ob'⟩, g1, g2⟩ := hh
        simp only at g2
        subst g2
        exact ⟨k, nm', rfl, g1⟩
    refine ⟨m1.hr.s_ok, fun nm ob hh => ?_, fun n1 n2 o1 o2 l1 l2 g1 g2 k1 k2 hb => ?_⟩
    · obtain ⟨k, nm', rfl, hk⟩ := get nm ob hh
      obtain ⟨l, c, e, q1, q2, q3, q4, q5, q6⟩ := m1.hr.o_ok nm' ob (hp1 k nm' ob hk)
      exact ⟨l, c, e, by rw [hιc k nm' ob hk]; exact q1, q2, q3, q4, fun i hi hj => .v ((q5 i hi hj).pure (nfs_get (hobj k nm' ob hk).2.2 i hi)), q6⟩
    · obtain ⟨a, na, rfl, ha⟩ := get n1 o1 g1
      obtain ⟨b, nb, rfl, hb'⟩ := get n2 o2 g2
      rw [hιc a na o1 ha] at k1
      rw [hιc b nb o2 hb'] at k2
      have := m1.hr.inj na nb o1 o2 l1 l2 (hp1 a na o1 ha) (hp1 b nb o2 hb') k1 k2 hb
      subst this
      rw [d1 a b na o1 o2 ha hb']
  have hargs : ∀ j (h1 : j < pr.args.length) (h2 : j < vs.length), VT S1 ιc pr.args[j] vs[j] := by
    intro j h1 h2
    obtain ⟨ns, g1, g2⟩ := p3 j (by omega) h1
    rw [Nat.zero_add] at g1
    exact prep1_VT g1 m1.sle (fun nm hm ob hob => m2 nm (g2 nm hm) ob hob) (fun nm ob ho => hιc j nm ob ho) (hv j (by omega) h2)
  have hlive : ∀ (k : Nat) (ob : Ob), (pr.given[k]?).join = some ob → ob.live = true ∧ nf.nfs ob.cs = true := by
    intro k ob hk
    rw [hgiven, Option.map_eq_some_iff] at hk
    obtain ⟨⟨nm', ob'⟩, g1, g2⟩ := hk
    simp only at g2
    subst g2
    exact (hobj k nm' ob' g1).2
  refine (hc.2 w S1 ιc vs (by omega) hargs hlive hHR (fun _ _ _ => rfl)).mono ?_
  rintro e w' ⟨rs, objs', ex, S2, ι2, val, hQ, rfl, hRV, hSle, hSnew, hIle, hHR2, hFr, hback, hex, hlen⟩
  -- the blocks that were handed in
  have hgv : ∀ b, given ιc pr.given b → ∃ k nm ob l, at_ pr.objs k = some (nm, ob) ∧ ι nm = some l ∧ l.blk = b := by
    rintro b ⟨k, ob, l, g1, g2, rfl⟩
    rw [hgiven, Option.map_eq_some_iff] at g1
    obtain ⟨⟨nm', ob'⟩, g3, g4⟩ := g1
    exact ⟨k, nm', ob', l, g3, by rw [← hιc k nm' ob' g3]; exact g2, rfl⟩
  have hgvO : ∀ b, given ιc pr.given b → Owned ι (chg hp (sealCh hp pr.ns)) b := by
    intro b hb
    obtain ⟨k, nm, ob, l, g1, g2, g3⟩ := hgv b hb
    exact ⟨nm, ob, l, hp1 k nm ob g1, (hobj k nm ob g1).2.1, g2, g3⟩
  -- the new names
  let ι' : NM := fun x => if x = fresh ∧ ex.isSome = true then ι2 (.loc 0 0 0) else ι x
  have hι' : ILe ι ι' := by
    intro nm l hh
    have hne : nm ≠ fresh := fun e => by rw [e, hf] at hh; cases hh
    simp only [ι', hne, false_and, if_false]
    exact hh
  have hnf : ∀ k nm ob, at_ pr.objs k = some (nm, ob) → nm ≠ fresh := by
    intro k nm ob hk e
    subst e
    obtain ⟨l, _, _, q1, _⟩ := m1.hr.o_ok nm ob (hp1 k nm ob hk)
    rw [hf] at q1; cases q1
  have hιk : ∀ k nm ob, at_ pr.objs k = some (nm, ob) → ∃ l, ι nm = some l ∧ ι2 (.arg k) = some l := by
    intro k nm ob hk
    obtain ⟨l, _, _, q1, _⟩ := m1.hr.o_ok nm ob (hp1 k nm ob hk)
    exact ⟨l, q1, hIle _ _ (by rw [hιc k nm ob hk]; exact q1)⟩
  obtain ⟨bk1, bk2⟩ := backCh_get (objs := pr.objs) (objs' := objs') (chg hp (sealCh hp pr.ns)) (by rw [hlen]; simp [Pr.given]) d1
  -- the objects behind the call
  have hcase : ∀ nm ob, chg hp (sealCh hp pr.ns ++ backCh pr.objs objs' ++ exCh fresh ex) nm = some ob →
      (nm = fresh ∧ ex = some ob) ∨ (nm ≠ fresh ∧ ∃ k o, at_ pr.objs k = some (nm, o) ∧ (objs'[k]?).join = some ob) ∨ (nm ≠ fresh ∧ (∀ k o, at_ pr.objs k ≠ some (nm, o)) ∧ chg hp (sealCh hp pr.ns) nm = some ob) ∨
      (nm = fresh ∧ ex = none ∧ (∀ k o, at_ pr.objs k ≠ some (nm, o)) ∧ chg hp (sealCh hp pr.ns) nm = some ob) := by
    intro nm ob hh
    rw [chg_append, chg_append] at hh
    by_cases hnm : nm = fresh
    · cases hex' : ex with
      | some ob' =>
        rw [hex'] at hh
        simp only [exCh, chg, updH, hnm, if_true, Option.some.injEq] at hh
        subst hh
        exact .inl ⟨hnm, rfl⟩
      | none =>
        rw [hex'] at hh
        simp only [exCh, chg] at hh
        have hno : ∀ k o, at_ pr.objs k ≠ some (nm, o) := fun k o e => hnf k nm o e hnm
        rw [bk2 nm hno] at hh
        exact .inr (.inr (.inr ⟨hnm, rfl, hno, hh⟩))
    · have hh' : chg (chg hp (sealCh hp pr.ns)) (backCh pr.objs objs') nm = some ob := by
        cases hex' : ex with
        | some ob' => rw [hex'] at hh; simpa only [exCh, chg, updH, if_neg hnm] using hh
        | none => rw [hex'] at hh; simpa only [exCh, chg] using hh
      by_cases hk : ∃ k o, at_ pr.objs k = some (nm, o)
      · obtain ⟨k, o, hk⟩ := hk
        rw [bk1 k nm o hk] at hh'
        exact .inr (.inl ⟨hnm, k, o, hk, hh'⟩)
      · have hno : ∀ k o, at_ pr.objs k ≠ some (nm, o) := fun k o e => hk ⟨k, o, e⟩
        rw [bk2 nm hno] at hh'
        exact .inr (.inr (.inl ⟨hnm, hno, hh'⟩))
  have hfr0 : chg hp (sealCh hp pr.ns) fresh = none := by
    cases hh : chg hp (sealCh hp pr.ns) fresh with
    | none => rfl
    | some ob =>
      obtain ⟨l, _, _, q1, _⟩ := m1.hr.o_ok fresh ob hh
      rw [hf] at q1; cases q1
  have hexι : ∀ ob, ex = some ob → ∃ l, ι' fresh = some l ∧ ι2 (.loc 0 0 0) = some l ∧ (w.heap.size ≤ l.blk ∨ given ιc pr.given l.blk) ∧ nf.nfs ob.cs = true ∧ ob.live = true := by
    intro ob hh
    obtain ⟨e1, e2, l, e3, e4⟩ := hex ob hh
    exact ⟨l, by simp [ι', hh, e3], e3, e4, e1, e2⟩
  have hιo : ∀ nm, nm ≠ fresh → ι' nm = ι nm := fun nm hnm => by simp [ι', hnm]
  have hold : ∀ nm ob l, (∀ k o, at_ pr.objs k ≠ some (nm, o)) → chg hp (sealCh hp pr.ns) nm = some ob → ι nm = some l → ¬ given ιc pr.given l.blk := by
    intro nm ob l hno hob hl' hg
    obtain ⟨k, nm2, ob2, l2, g1, g2, g3⟩ := hgv _ hg
    have := m1.hr.inj nm2 nm ob2 ob l2 l (hp1 k nm2 ob2 g1) hob g2 hl' g3
    subst this
    exact hno k ob2 g1
  have hltb : ∀ nm ob l, chg hp (sealCh hp pr.ns) nm = some ob → ι nm = some l → l.blk < w.heap.size := by
    intro nm ob l hob hl'
    obtain ⟨l2, c, e, q1, q2, _⟩ := m1.hr.o_ok nm ob hob
    rw [hl'] at q1; cases q1
    exact (Array.getElem?_eq_some_iff.1 q2).1
  have mv2 : Mv fresh S1 ι (chg hp (sealCh hp pr.ns)) w S2 ι' (chg hp (sealCh hp pr.ns ++ backCh pr.objs objs' ++ exCh fresh ex)) w' := by
    refine ⟨hSle, hι', ⟨hHR2.s_ok, ?_, ?_⟩, hFr.os, hFr.tape, hFr.output, hFr.size, fun b hb ho => hFr.block b hb (fun hg => ho (hgvO b hg)), fun b o hs => ?_, ?_, ?_⟩
    · intro nm ob hh
      rcases hcase nm ob hh with ⟨rfl, he⟩ | ⟨hnm, k, o, hk, hj⟩ | ⟨hnm, hno, hob⟩ | ⟨rfl, _, _, hob⟩
      · obtain ⟨l, a1, a2, a3, a4, a5⟩ := hexι ob he
        obtain ⟨l2, c, e, q1, q2, q3, q4, q5, q6⟩ := hHR2.o_ok (.loc 0 0 0) ob (by simpa [HPx] using he)
        rw [a2] at q1; cases q1
        exact ⟨_, c, e, a1, q2, q3, q4, fun i hi hj => .v ((q5 i hi hj).pure (nfs_get a4 i hi)), q6⟩
      · obtain ⟨l2, c, e, q1, q2, q3, q4, q5, q6⟩ := hHR2.o_ok (.arg k) ob (by simpa [HPx] using hj)
        obtain ⟨l, b1, b2⟩ := hιk k nm o hk
        rw [b2] at q1; cases q1
        exact ⟨_, c, e, hι' _ _ b1, q2, q3, q4, fun i hi hj' => .v ((q5 i hi hj').pure (nfs_get (hback k ob hj).2.2 i hi)), q6⟩
      · obtain ⟨l, c, e, q1, q2, q3, q4, q5, q6⟩ := m1.hr.o_ok nm ob hob
        have hng := hold nm ob l hno hob q1
        have hlt := hltb nm ob l hob q1
        refine ⟨l, c, e, hι' _ _ q1, by rw [hFr.block _ hlt hng]; exact q2, q3, q4, fun i hi hj => (q5 i hi hj).mono hSle hι', ?_⟩
        split
        · rename_i hlv
          simp only [hlv, if_true] at q6
          cases hS2 : S2 l.blk with
          | none => rfl
          | some o =>
            exfalso
            rcases hSnew _ _ hS2 with x | x | x
            · rw [q6] at x; cases x
            · omega
            · exact hng x
        · rename_i hlv
          simp only [hlv] at q6
          exact hSle _ _ q6
      · exact absurd (hfr0.symm.trans hob) (by simp)
    · intro n1 n2 o1 o2 l1 l2 g1 g2 k1 k2 hb
      rcases hcase n1 o1 g1 with ⟨rfl, he1⟩ | ⟨hn1, a, oa, ha, hja⟩ | ⟨hn1, hno1, hob1⟩ | ⟨rfl, _, _, hob⟩ <;> rcases hcase n2 o2 g2 with ⟨rfl, he2⟩ | ⟨hn2, b, ob, hb', hjb⟩ | ⟨hn2, hno2, hob2⟩ | ⟨rfl, _, _, hob'⟩
      · rfl
      · exfalso
        obtain ⟨l, a1, a2, _⟩ := hexι o1 he1
        rw [a1] at k1; cases k1
        obtain ⟨l', b1, b2⟩ := hιk b n2 ob hb'
        rw [hι' _ _ b1] at k2; cases k2
        have := hHR2.inj (.loc 0 0 0) (.arg b) o1 o2 _ _ (by simpa [HPx] using he1) (by simpa [HPx] using hjb) a2 b2 hb
        cases this
      · exfalso
        obtain ⟨l, a1, a2, a3, _⟩ := hexι o1 he1
        rw [a1] at k1; cases k1
        rw [hιo n2 hn2] at k2
        have h1 := hold n2 o2 l2 hno2 hob2 k2
        have h2 := hltb n2 o2 l2 hob2 k2
        rcases a3 with a3 | a3
        · omega
        · rw [hb] at a3; exact h1 a3
      · rfl
      · exfalso
        obtain ⟨l, a1, a2, _⟩ := hexι o2 he2
        rw [a1] at k2; cases k2
        obtain ⟨l', b1, b2⟩ := hιk a n1 oa ha
        rw [hι' _ _ b1] at k1; cases k1
        have := hHR2.inj (.arg a) (.loc 0 0 0) o1 o2 _ _ (by simpa [HPx] using hja) (by simpa [HPx] using he2) b2 a2 hb
        cases this
      · obtain ⟨l', b1, b2⟩ := hιk a n1 oa ha
        rw [hι' _ _ b1] at k1; cases k1
        obtain ⟨l'', b3, b4⟩ := hιk b n2 ob hb'
        rw [hι' _ _ b3] at k2; cases k2
        have := hHR2.inj (.arg a) (.arg b) o1 o2 _ _ (by simpa [HPx] using hja) (by simpa [HPx] using hjb) b2 b4 hb
        cases this
        rw [ha] at hb'; cases hb'; rfl
      · exfalso
        obtain ⟨l', b1, b2⟩ := hιk a n1 oa ha
        rw [hι' _ _ b1] at k1; cases k1
        rw [hιo n2 hn2] at k2
        have := m1.hr.inj n1 n2 oa o2 _ _ (hp1 a n1 oa ha) hob2 b1 k2 hb
        subst this
        exact hno2 a oa ha
      · exact absurd (hfr0.symm.trans hob') (by simp)
      · exfalso
        obtain ⟨l, a1, a2, a3, _⟩ := hexι o2 he2
        rw [a1] at k2; cases k2
        rw [hιo n1 hn1] at k1
        have h1 := hold n1 o1 l1 hno1 hob1 k1
        have h2 := hltb n1 o1 l1 hob1 k1
        rcases a3 with a3 | a3
        · omega
        · rw [← hb] at a3; exact h1 a3
      · exfalso
        obtain ⟨l', b1, b2⟩ := hιk b n2 ob hb'
        rw [hι' _ _ b1] at k2; cases k2
        rw [hιo n1 hn1] at k1
        have := m1.hr.inj n1 n2 o1 ob _ _ hob1 (hp1 b n2 ob hb') k1 b1 hb
        subst this
        exact hno1 b ob hb'
      · rw [hιo n1 hn1] at k1
        rw [hιo n2 hn2] at k2
        exact m1.hr.inj n1 n2 o1 o2 l1 l2 hob1 hob2 k1 k2 hb
      · exact absurd (hfr0.symm.trans hob') (by simp)
      · exact absurd (hfr0.symm.trans hob) (by simp)
      · exact absurd (hfr0.symm.trans hob) (by simp)
      · exact absurd (hfr0.symm.trans hob) (by simp)
      · exact absurd (hfr0.symm.trans hob) (by simp)
    · rcases hSnew b o hs with x | x | x
      · exact .inl x
      · exact .inr (.inl x)
      · exact .inr (.inr (hgvO b x))
    · rintro b ⟨nm, ob, l, g1, g2, g3, rfl⟩
      rcases hcase nm ob g1 with ⟨rfl, he⟩ | ⟨hnm, k, o, hk, hj⟩ | ⟨hnm, hno, hob⟩ | ⟨rfl, _, _, hob⟩
      · obtain ⟨l', a1, a2, a3, _⟩ := hexι ob he
        rw [a1] at g3; cases g3
        exact a3.imp id (hgvO _)
      · obtain ⟨l', b1, b2⟩ := hιk k nm o hk
        rw [hι' _ _ b1] at g3; cases g3
        exact .inr ⟨nm, o, _, hp1 k nm o hk, (hobj k nm o hk).2.1, b1, rfl⟩
      · rw [hιo nm hnm] at g3
        exact .inr ⟨nm, ob, l, hob, g2, g3, rfl⟩
      · exact absurd (hfr0.symm.trans hob) (by simp)
    · intro nm hn
      by_cases hnm : nm = fresh
      · exact .inr hnm
      · rw [hιo nm hnm] at hn; exact .inl hn
  refine ⟨rs, objs', ex, val, S2, ι', hQ, rfl, ?_, m1.trans mv2⟩
  -- the results
  obtain ⟨us, u1, u2, u3⟩ := hRV
  have hone : ∀ i (hi : i < rs.length) (hj : i < us.length), VT S2 ι' (rvA fresh pr.objs ex rs[i]) us[i] := by
    intro i hi hj
    have := u2 i hi hj
    generalize rs[i] = r at this ⊢
    cases this with
    | v h => exact .v h
    | ref h =>
      rename_i k off
      simp only [rvA]
      split
      · rename_i nm ob hk
        obtain ⟨l, hl', he⟩ := h.ref_inv
        obtain ⟨l', b1, b2⟩ := hιk k nm ob hk
        rw [b2] at hl'; cases hl'
        rw [he]
        exact .ref nm off _ (hι' _ _ b1)
      · exact .undef _
    | arr h =>
      rename_i k off len sz
      simp only [rvA]
      split
      · rename_i nm ob hk
        obtain ⟨l, o', cap, q1, he, q3, q4, q5⟩ := h.arr_inv
        obtain ⟨l', b1, b2⟩ := hιk k nm ob hk
        rw [b2] at q1; cases q1
        rw [he]
        exact .arr nm off len sz _ o' cap (hι' _ _ b1) q3 q4 q5
      · exact .undef _
    | ex h =>
      rename_i off len sz
      obtain ⟨l, o', cap, q1, he, q3, q4, q5⟩ := h.arr_inv
      simp only [rvA]
      rw [he]
      split
      · rename_i ob
        exact .arr fresh off len sz l o' cap (by simp [ι', q1]) q3 q4 q5
      · exact .undef _
  subst u3
  match rs, us, u1, hone with
  | [r], [u], _, hone => exact hone 0 (by simp) (by simp)
  | [], [], _, _ => exact .tup [] [] rfl (fun i hi => by simp at hi)
  | r :: r' :: rs, u :: u' :: us, hh, hone =>
    refine .tup _ _ (by simpa using hh.symm) (fun i hi hj => ?_)
    have := hone i (by simpa using hi) hj
    show VT S2 ι' ((List.map (rvA fresh pr.objs ex) (r :: r' :: rs))[i]'hi) _
    rw [List.getElem_map]
    exact this

end Go.Ab
