/- THE ABSTRACT MACHINE, 15: a function's contract out of the weakest precondition of its body. Conditions: the table of types is the program's. -/
import Derived.Test.YthbbollhojdjdaaAbCode
namespace Go.Ab
set_option linter.unusedSimpArgs false

/-- What a function's result is. -/
def valA (tt : TypeId → Option TI) (st : St) : ResultVar → Option AV
  | .tmp t => some (st.tm t)
  | .cell a t => loadA tt t (st.tm a) st.hp

structure Ret where
  rv : RV
  ns : List Nm
  ex : Option Nm

def retA (keep : Bool) (hp : HP) (a : AV) : Option Ret :=
  if nf a = true then some ⟨.v a, [], none⟩ else
  match a with
  | .ref (.arg k) off => some ⟨.ref k off, [], none⟩
  | .arr (.arg k) off len sz =>
    if keep = true then some ⟨.arr k off len sz, [], none⟩
    else (match sealA hp (.arg k) off len sz with
      | some s => some ⟨.v s, [.arg k], none⟩
      | none => none)
  | .arr (.loc d i c) off len sz =>
    if keep = true then some ⟨.ex off len sz, [], some (.loc d i c)⟩
    else (match sealA hp (.loc d i c) off len sz with
      | some s => some ⟨.v s, [.loc d i c], none⟩
      | none => none)
  | a => match sealV hp a with
    | some (s, ns) => some ⟨.v s, ns, none⟩
    | none => none

structure Fin where
  rvs : List RV
  ns : List Nm
  exs : List Nm

def retsA (tt : TypeId → Option TI) (keep : Bool) (st : St) : List ResultVar → Option Fin
  | [] => some ⟨[], [], []⟩
  | r :: l => match valA tt st r with
    | none => none
    | some a => match retA keep st.hp a with
      | none => none
      | some x => match retsA tt keep st l with
        | none => none
        | some f => some ⟨x.rv :: f.rvs, x.ns ++ f.ns, x.ex.toList ++ f.exs⟩

def backObjs (hp : HP) : Nat → List (Option Ob) → Option (List (Option Ob))
  | _, [] => some []
  | k, none :: l => match backObjs hp (k + 1) l with
    | some r => some (none :: r)
    | none => none
  | k, some _ :: l => match backObjs hp (k + 1) l with
    | some r => match hp (.arg k) with
      | some ob => if nf.nfs ob.cs = true then some (some ob :: r) else none
      | none => some (none :: r)
    | none => none

/-- What is needed at a function's end. -/
def WFin (tt : TypeId → Option TI) (keep : Bool) (results : List ResultVar) (objs : List (Option Ob)) (st : St) (Q : List RV → List (Option Ob) → Option Ob → Prop) : Prop :=
  match retsA tt keep st results with
  | none => False
  | some f =>
    match backObjs (chg st.hp (sealCh st.hp f.ns)) 0 objs with
    | none => False
    | some objs' =>
      match f.exs with
      | [] => Q f.rvs objs' none
      | [nm] => match st.hp nm with
        | some ob => (ob.live = true ∧ nf.nfs ob.cs = true ∧ nm ∉ f.ns) ∧ Q f.rvs objs' (some ob)
        | none => False
      | _ => False

def St0 (args : List AV) (objs : List (Option Ob)) : St := ⟨fun t => (args[t]?).getD (.tup []), HPof objs, 1⟩

/-- A result, read. -/
def resV (tmps : Array Value) : ResultVar → Sem Value
  | .tmp t => pure (tmps.getD t undef)
  | .cell a t => do loadVar t (← asAddr (tmps.getD a undef))

theorem results_eq (fn : Func) (tmps : Array Value) : results fn tmps = (do let vs ← fn.results.mapM (resV tmps); pure (if h : vs.size = 1 then vs[0] else .tuple vs)) := by
  have : (fun r => (match r with | .tmp t => pure (tmps.getD t undef) | .cell a t => (do loadVar t (← asAddr (tmps.getD a undef))) : Sem Value)) = resV tmps := by
    funext r; cases r <;> rfl
  unfold results
  rw [← this]
  rfl

theorem run_list_mapM_ex {P : Program} {α β : Type} (f : α → Sem β) (p : α → β → Prop) (w : World) : ∀ (l : List α), (∀ x ∈ l, ∃ y, (f x).run P w = .ok y w ∧ p x y) →
    ∃ ys : List β, (l.mapM f).run P w = .ok ys w ∧ ys.length = l.length ∧ ∀ i (h1 : i < l.length) (h2 : i < ys.length), p l[i] ys[i]
  | [], _ => ⟨[], by simp, rfl, fun i h => by simp at h⟩
  | a :: l, h => by
    obtain ⟨y, h1, h2⟩ := h a (by simp)
    obtain ⟨ys, g1, g2, g3⟩ := run_list_mapM_ex f p w l (fun x hx => h x (by simp [hx]))
    refine ⟨y :: ys, by simp [List.mapM_cons, h1, g1], by simp [g2], fun i a1 a2 => ?_⟩
    cases i with
    | zero => exact h2
    | succ i => exact g3 i (by simpa using a1) (by simpa using a2)

theorem retsA_get {tt : TypeId → Option TI} {keep : Bool} {st : St} : ∀ {rs : List ResultVar} {f : Fin}, retsA tt keep st rs = some f →
    f.rvs.length = rs.length ∧ ∀ i (h1 : i < rs.length) (h2 : i < f.rvs.length), ∃ a x, valA tt st rs[i] = some a ∧ retA keep st.hp a = some x ∧ f.rvs[i] = x.rv ∧ (∀ nm ∈ x.ns, nm ∈ f.ns) ∧ (∀ nm, x.ex = some nm → nm ∈ f.exs)
  | [], f, h => by simp only [retsA, Option.some.injEq] at h; subst h; exact ⟨rfl, fun i h => by simp at h⟩
  | r :: l, f, h => by
    simp only [retsA] at h
    split at h
    · cases h
    · rename_i a ha
      split at h
      · cases h
      · rename_i x hx
        split at h
        · cases h
        · rename_i f' hf'
          cases h
          obtain ⟨g1, g2⟩ := retsA_get hf'
          refine ⟨by simp [g1], fun i h1 h2 => ?_⟩
          cases i with
          | zero => exact ⟨a, x, ha, hx, rfl, fun nm hm => by simp [hm], fun nm hm => by simp [hm]⟩
          | succ i =>
            obtain ⟨a', x', k1, k2, k3, k4, k5⟩ := g2 i (by simpa using h1) (by simpa using h2)
            exact ⟨a', x', k1, k2, k3, fun nm hm => by simp [k4 nm hm], fun nm hm => by simp [k5 nm hm]⟩

theorem backObjs_get {hp : HP} : ∀ {objs objs' : List (Option Ob)} {k : Nat}, backObjs hp k objs = some objs' → objs'.length = objs.length ∧
    ∀ (i : Nat) (ob : Ob), (objs'[i]?).join = some ob → i < objs.length ∧ (objs[i]?).join.isSome = true ∧ nf.nfs ob.cs = true ∧ hp (.arg (k + i)) = some ob
  | [], objs', k, h => by simp only [backObjs, Option.some.injEq] at h; subst h; exact ⟨rfl, fun i ob h => by simp at h⟩
  | none :: l, objs', k, h => by
    simp only [backObjs] at h
    split at h
    · rename_i r hr
      cases h
      obtain ⟨g1, g2⟩ := backObjs_get hr
      refine ⟨by simp [g1], fun i ob hi => ?_⟩
      cases i with
      | zero => simp [Option.join] at hi
      | succ i =>
        simp only [List.getElem?_cons_succ] at hi ⊢
        obtain ⟨a, b, c, d⟩ := g2 i ob hi
        exact ⟨by simpa using a, b, c, by rw [show k + (i + 1) = k + 1 + i from by omega]; exact d⟩
    · cases h
  | some o :: l, objs', k, h => by
    simp only [backObjs] at h
    split at h
    · rename_i r hr
      obtain ⟨g1, g2⟩ := backObjs_get hr
      have tail : ∀ (i : Nat) (ob : Ob), (r[i]?).join = some ob → i + 1 < (some o :: l).length ∧ ((some o :: l)[i + 1]?).join.isSome = true ∧ nf.nfs ob.cs = true ∧ hp (.arg (k + (i + 1))) = some ob := by
        intro i ob hi
        obtain ⟨a, b, c, d⟩ := g2 i ob hi
        exact ⟨by simpa using a, by simpa using b, c, by rw [show k + (i + 1) = k + 1 + i from by omega]; exact d⟩
      split at h
      · rename_i ob hob
        split at h
        · rename_i hn
          cases h
          refine ⟨by simp [g1], fun i ob' hi => ?_⟩
          cases i with
          | zero => simp [Option.join] at hi; subst hi; exact ⟨by simp, by simp [Option.join], hn, hob⟩
          | succ i => exact tail i ob' (by simpa using hi)
        · cases h
      · cases h
        refine ⟨by simp [g1], fun i ob' hi => ?_⟩
        cases i with
        | zero => simp [Option.join] at hi
        | succ i => exact tail i ob' (by simpa using hi)
    · cases h

section
variable {P : Program} {E : Env} (hT : TTok P E.tt)
include hT

theorem valA_ok {C : Ctx} {dn : Nat → Prop} {S : SM} {ι : NM} {st : St} {a : Act} {w : World} (h : R C dn S ι st a w) {r : ResultVar} {v : AV} (hv : valA E.tt st r = some v) :
    ∃ val, (resV a.tmps r).run P w = .ok val w ∧ VT S ι v val := by
  cases r with
  | tmp t => simp only [valA, Option.some.injEq] at hv; subst hv; exact ⟨_, rfl, h.tm t⟩
  | cell x t =>
    simp only [valA] at hv
    obtain ⟨val, h1, h2⟩ := loadA_ok hT h.hr hv (h.tm x)
    refine ⟨val, ?_, h2⟩
    have hp : ∃ ad, a.tmps.getD x undef = .pointer (some ad) := by
      have hx := h.tm x
      unfold loadA at hv
      split at hv
      · cases hv
      · split at hv
        · rename_i nm off hh
          rw [hh] at hx
          obtain ⟨l, _, e⟩ := hx.ref_inv
          exact ⟨_, e⟩
        · rename_i cs hh
          rw [hh] at hx
          obtain ⟨b, o, e, _⟩ := VT.pc_inv h.hr hx
          exact ⟨_, e⟩
        · cases hv
    obtain ⟨ad, had⟩ := hp
    rw [had] at h1
    simp only [resV, had]
    simpa [Instr.loadAt, Instr.sureAddr, asAddr] using h1

/-- A FUNCTION's CONTRACT. -/
theorem CallsA.of_W (hD : DrawOk P E) {f : FuncId} {fn : Func} {c : Code} (hf : P.funcs[f]? = some fn) (hname : (fn.name == "runtime.NumGoroutine") = false) (hb : fn.body = some c) (hok : codeOK fn.ntmps c = true) {args : List AV} {objs : List (Option Ob)}
    (hargs : args.length ≤ fn.ntmps) (keep : Bool) {Q : List RV → List (Option Ob) → Option Ob → Prop}
    (h : W P E c (St0 args objs) fun e st => (match e with | .normal | .ret => True | _ => False) ∧ WFin E.tt keep fn.results.toList objs st Q) : CallsA P f args objs Q := by
  refine ⟨⟨fn, hf, hname, by simp [hb]⟩, ?_⟩
  intro w S ι vs hl hv hlive hHR hloc
  let C : Ctx := ⟨w, given ι objs, S, ι, fn.ntmps⟩
  have hR : R C (fun _ => False) S ι (St0 args objs) { tmps := vs.toArray ++ Array.replicate (fn.ntmps - vs.toArray.size) undef, defers := [] } w := by
    refine ⟨by simp [C]; omega, fun t => ?_, rfl, hHR, SLe.refl _, fun b o h => .inl h, Fr.refl _ _, ?_, ILe.refl _, fun k h => h, fun d i c h => absurd (hloc d i c) h⟩
    · simp only [St0]
      by_cases ht : t < args.length
      · have := hv t ht (by omega)
        have e : (vs.toArray ++ Array.replicate (fn.ntmps - vs.toArray.size) undef).getD t undef = vs[t]'(by omega) := by
          simp [Array.getD, show t < vs.length by omega]
          intro hh; omega
        rw [e]
        simpa [List.getElem?_eq_getElem ht] using this
      · have e : (vs.toArray ++ Array.replicate (fn.ntmps - vs.toArray.size) undef).getD t undef = undef := by
          simp only [Array.getD]
          split
          · simp [Array.getElem_append, show ¬ t < vs.length by omega]
          · rfl
        rw [e]
        simp only [List.getElem?_eq_none (Nat.le_of_not_lt ht), Option.getD_none]
        exact .tup [] [] rfl (fun i hi => by simp at hi)
    · rintro b ⟨nm, ob, l, h1, h2, h3, rfl⟩
      cases nm with
      | loc d i c => simp [St0, HPof] at h1
      | arg k => exact .inr ⟨k, ob, l, h1, h3, rfl⟩
  have hwp := W_ok hT hD (C := C) c hok hR h
  refine calls_of_wp hf hb (wp_mono hwp ?_)
  rintro e a w' ⟨S', ι', st', hR', he, hfin⟩
  -- the end
  have core : a.defers = [] ∧ ∃ v, (results fn a.tmps).run P w' = .ok v w' ∧ ∃ (rs : List RV) (objs' : List (Option Ob)) (ex : Option Ob) (S' : SM) (ι' : NM) (v' : Value), Q rs objs' ex ∧ Ending.returned v = .returned v' ∧ RVs S' ι' rs v' ∧
      SLe S S' ∧ (∀ b o, S' b = some o → S b = some o ∨ w.heap.size ≤ b ∨ given ι objs b) ∧ ILe ι ι' ∧
      HR S' ι' (HPx objs' ex) w' ∧ Fr w (given ι objs) w' ∧
      (∀ (k : Nat) (ob : Ob), (objs'[k]?).join = some ob → k < objs.length ∧ (objs[k]?).join.isSome = true ∧ nf.nfs ob.cs = true) ∧
      (∀ ob : Ob, ex = some ob → nf.nfs ob.cs = true ∧ ob.live = true ∧ ∃ l, ι' (.loc 0 0 0) = some l ∧ (w.heap.size ≤ l.blk ∨ given ι objs l.blk)) ∧ objs'.length = objs.length := by
    refine ⟨hR'.defers, ?_⟩
    unfold WFin at hfin
    split at hfin
    · exact hfin.elim
    rename_i fi hfi
    split at hfin
    · exact hfin.elim
    rename_i objs' hob'
    obtain ⟨r1, r2⟩ := retsA_get hfi
    obtain ⟨b1, b2⟩ := backObjs_get hob'
    obtain ⟨S2, m1, m2⟩ := sealAll (fresh := .loc 0 0 0) fi.ns hR'.hr
    -- the results' values
    obtain ⟨ys, y1, y2, y3⟩ := run_list_mapM_ex (P := P) (resV a.tmps)
      (fun r y => ∃ v, valA E.tt st' r = some v ∧ VT S' ι' v y) w' fn.results.toList (fun r hr => by
        obtain ⟨i, hi, rfl⟩ := List.mem_iff_getElem.1 hr
        obtain ⟨v, x, k1, _⟩ := r2 i hi (by omega)
        obtain ⟨val, g1, g2⟩ := valA_ok hT hR' k1
        exact ⟨val, g1, v, k1, g2⟩)
    have hrun : (results fn a.tmps).run P w' = .ok (oneOr ys) w' := by
      have hm : (fn.results.mapM (resV a.tmps)).run P w' = .ok ys.toArray w' := by
        rw [Array.mapM_eq_mapM_toList]
        simp only [Sem.run_map, y1, Result.andThen_ok]
      rw [results_eq]
      simp only [Sem.run_bind]
      rw [hm]
      simp only [Result.andThen_ok, Sem.run_pure]
      congr 1
      match ys with
      | [] => rfl
      | [x] => rfl
      | x :: y :: l => simp; rfl
    refine ⟨_, hrun, fi.rvs, objs', ?_⟩
    have hargn : ∀ k l, ι' (.arg k) = some l → ι (.arg k) = some l := by
      intro k l hk
      have := hR'.arg k (by rw [hk]; simp)
      cases hh : ι (.arg k) with
      | none => exact absurd hh this
      | some l' =>
        have := hR'.ile _ _ hh
        rw [hk] at this; cases this; rfl
    have hsn : ∀ b o, S2 b = some o → S b = some o ∨ w.heap.size ≤ b ∨ given ι objs b := by
      intro b o hs
      rcases m1.snew b o hs with q | q | q
      · exact hR'.snew b o q
      · exact .inr (.inl (Nat.le_trans hR'.fr.size q))
      · exact .inr (hR'.own b q)
    -- whatever object is handed over
    have fin : ∀ (ex : Option Nm) (exo : Option Ob), (∀ nm, ex = some nm → ∃ ob, exo = some ob ∧ st'.hp nm = some ob ∧ ob.live = true ∧ nf.nfs ob.cs = true ∧ nm ∉ fi.ns) → (ex = none → exo = none) → (∀ nm ∈ fi.exs, ex = some nm) → (∀ nm, ex = some nm → ∃ d i c, nm = .loc d i c) →
        Q fi.rvs objs' exo → ∃ (ex : Option Ob) (S' : SM) (ι' : NM) (v' : Value), Q fi.rvs objs' ex ∧ Ending.returned (oneOr ys) = .returned v' ∧ RVs S' ι' fi.rvs v' ∧
        SLe S S' ∧ (∀ b o, S' b = some o → S b = some o ∨ w.heap.size ≤ b ∨ given ι objs b) ∧ ILe ι ι' ∧
        HR S' ι' (HPx objs' ex) w' ∧ Fr w (given ι objs) w' ∧
        (∀ (k : Nat) (ob : Ob), (objs'[k]?).join = some ob → k < objs.length ∧ (objs[k]?).join.isSome = true ∧ nf.nfs ob.cs = true) ∧
        (∀ ob : Ob, ex = some ob → nf.nfs ob.cs = true ∧ ob.live = true ∧ ∃ l, ι' (.loc 0 0 0) = some l ∧ (w.heap.size ≤ l.blk ∨ given ι objs l.blk)) ∧ objs'.length = objs.length := by
      intro ex exo hex hexn hexs hexl hQ
      let ι2 : NM := fun nm => match nm with
        | .arg k => ι (.arg k)
        | .loc 0 0 0 => ex.bind ι'
        | _ => none
      have hget : ∀ nm ob, HPx objs' exo nm = some ob → ∃ nm', chg st'.hp (sealCh st'.hp fi.ns) nm' = some ob ∧ nf.nfs ob.cs = true ∧ ι2 nm = ι' nm' ∧ (nm = .loc 0 0 0 ∧ ex = some nm' ∨ ∃ k, nm = .arg k ∧ nm' = .arg k) := by
        intro nm ob hh
        unfold HPx at hh
        split at hh
        · rename_i k
          obtain ⟨_, g2, g3, g4⟩ := b2 k ob hh
          rw [Nat.zero_add] at g4
          refine ⟨.arg k, g4, g3, ?_, .inr ⟨k, rfl, rfl⟩⟩
          obtain ⟨l, _, _, q1, _⟩ := m1.hr.o_ok _ _ g4
          simp only [ι2]
          rw [q1, hargn k l q1]
        · cases hex' : ex with
          | none => rw [hexn hex'] at hh; cases hh
          | some nm' =>
            obtain ⟨ob', g1, g2, g3, g4, g5⟩ := hex nm' hex'
            rw [g1] at hh; cases hh
            exact ⟨nm', by rw [sealCh_get g5]; exact g2, g4, by simp [ι2, hex'], .inl ⟨rfl, rfl⟩⟩
        · cases hh
      refine ⟨exo, S2, ι2, _, hQ, rfl, ?_, hR'.sle.trans m1.sle, hsn, ?_, ⟨m1.hr.s_ok, fun nm ob hh => ?_, fun n1 n2 o1 o2 l1 l2 g1 g2 k1 k2 hb => ?_⟩, hR'.fr, fun k ob hk => ?_, fun ob ho => ?_, b1⟩
      · refine ⟨ys, by omega, fun i hi hj => ?_, rfl⟩
        obtain ⟨v, x, k1, k2, k3, k4, k5⟩ := r2 i (by omega) hi
        obtain ⟨v', k1', hvt⟩ := y3 i (by omega) hj
        rw [k1] at k1'; cases k1'
        rw [k3]
        unfold retA at k2
        split at k2
        · rename_i hn; cases k2; exact .v ((hvt.pure hn).mono m1.sle)
        · split at k2
          · rename_i k off _
            cases k2
            obtain ⟨l, hl', he⟩ := hvt.ref_inv
            rw [he]
            exact .ref (.ref _ _ l (by simp only [ι2]; exact hargn k l hl'))
          · rename_i k off len sz _
            split at k2
            · cases k2
              obtain ⟨l, o, cap, q1, he, q3, q4, q5⟩ := hvt.arr_inv
              rw [he]
              exact .arr (.arr _ _ _ _ l o cap (by simp only [ι2]; exact hargn k l q1) q3 q4 q5)
            · split at k2
              · rename_i s hse
                cases k2
                obtain ⟨ob, hob⟩ := sealA_ob hse
                obtain ⟨lc, o, cap, q1, he, q3, q4, q5⟩ := hvt.arr_inv
                rw [he]
                exact .v (sealA_V hse hob (m2 _ (k4 _ (by simp)) ob hob) q1 q3 q5)
              · cases k2
          · rename_i d j c off len sz _
            split at k2
            · cases k2
              have hex' := hexs _ (k5 _ rfl)
              obtain ⟨l, o, cap, q1, he, q3, q4, q5⟩ := hvt.arr_inv
              rw [he]
              exact .ex (.arr _ _ _ _ l o cap (by simp only [ι2, hex', Option.bind_some]; exact q1) q3 q4 q5)
            · split at k2
              · rename_i s hse
                cases k2
                obtain ⟨ob, hob⟩ := sealA_ob hse
                obtain ⟨lc, o, cap, q1, he, q3, q4, q5⟩ := hvt.arr_inv
                rw [he]
                exact .v (sealA_V hse hob (m2 _ (k4 _ (by simp)) ob hob) q1 q3 q5)
              · cases k2
          · split at k2
            · rename_i s ns hse
              cases k2
              exact .v (sealV_V m1.sle hse (fun nm hm ob hob => m2 nm (k4 nm hm) ob hob) hvt)
            · cases k2
      · intro nm l hh
        cases nm with
        | arg k => exact hh
        | loc d i c => rw [hloc] at hh; cases hh
      · obtain ⟨nm', g1, g2, g3, _⟩ := hget nm ob hh
        obtain ⟨l, c', e', q1, q2, q3, q4, q5, q6⟩ := m1.hr.o_ok nm' ob g1
        exact ⟨l, c', e', by rw [g3]; exact q1, q2, q3, q4, fun i hi hj => .v ((q5 i hi hj).pure (nfs_get g2 i hi)), q6⟩
      · obtain ⟨m, a1, a2, a3, a4⟩ := hget n1 o1 g1
        obtain ⟨m', c1, c2, c3, c4⟩ := hget n2 o2 g2
        have := m1.hr.inj m m' o1 o2 l1 l2 a1 c1 (by rw [← a3]; exact k1) (by rw [← c3]; exact k2) hb
        subst this
        rcases a4 with ⟨rfl, e1⟩ | ⟨k, rfl, e1⟩ <;> rcases c4 with ⟨rfl, e2⟩ | ⟨k', rfl, e2⟩
        · rfl
        · obtain ⟨d, i, c, e3⟩ := hexl _ e1
          rw [e2] at e3; cases e3
        · obtain ⟨d, i, c, e3⟩ := hexl _ e2
          rw [e1] at e3; cases e3
        · rw [e1] at e2; cases e2; rfl
      · obtain ⟨a1, a2, a3, _⟩ := b2 k ob hk
        exact ⟨a1, a2, a3⟩
      · cases hex' : ex with
        | none => rw [hexn hex'] at ho; cases ho
        | some nm' =>
          obtain ⟨ob', g1, g2, g3, g4, g5⟩ := hex nm' hex'
          rw [g1] at ho; cases ho
          obtain ⟨l, _, _, q1, _⟩ := hR'.hr.o_ok nm' ob g2
          exact ⟨g4, g3, l, by simp [ι2, hex', q1], hR'.own _ ⟨nm', ob, l, g2, g3, q1, rfl⟩⟩
    split at hfin
    · rename_i hexs
      exact fin none none (fun nm h => by cases h) (fun _ => rfl) (fun nm hm => by rw [hexs] at hm; cases hm) (fun nm h => by cases h) hfin
    · rename_i nm hexs
      split at hfin
      · rename_i ob hob
        obtain ⟨⟨q1, q2, q3⟩, hQ⟩ := hfin
        refine fin (some nm) (some ob) (fun nm' h => by cases h; exact ⟨ob, rfl, hob, q1, q2, q3⟩) (fun h => by cases h) (fun nm' hm => by rw [hexs] at hm; simp at hm; rw [hm]) (fun nm' h => ?_) hQ
        cases h
        -- only names of the call's own are handed over
        have : ∀ {rs : List ResultVar} {fi : Fin}, retsA E.tt keep st' rs = some fi → ∀ n ∈ fi.exs, ∃ d i c, n = .loc d i c := by
          intro rs
          induction rs with
          | nil => intro fi h n hn; simp only [retsA, Option.some.injEq] at h; subst h; cases hn
          | cons r l ih =>
            intro fi h n hn
            simp only [retsA] at h
            split at h
            · cases h
            · split at h
              · cases h
              · rename_i x hx
                split at h
                · cases h
                · rename_i f' hf'
                  cases h
                  simp only [List.mem_append] at hn
                  rcases hn with hn | hn
                  · unfold retA at hx
                    repeat' split at hx
                    all_goals (first | (cases hx; done) | (cases hx; simp at hn; exact ⟨_, _, _, hn⟩) | (cases hx; simp at hn))
                  · exact ih hf' n hn
        exact this hfi nm (by rw [hexs]; simp)
      · exact hfin.elim
    · exact hfin.elim
  cases e with
  | normal => exact core
  | ret => exact core
  | _ => exact he.elim

end
end Go.Ab
