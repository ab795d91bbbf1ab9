/- THE ABSTRACT MACHINE, 18: statements whose order is open: whatever order the edges allow, the outcome is the text's order's. Conditions: the table of types is the program's. -/
import Derived.Test.YthbbollhojdjdaaAbCode
namespace Go.Ab
set_option linter.unusedSimpArgs false

/-! ### what an operation looks at -/

theorem sealA_congr {hp hp' : HP} {nm : Nm} (h : hp nm = hp' nm) (off len sz : Nat) : sealA hp nm off len sz = sealA hp' nm off len sz := by
  unfold sealA; rw [h]

theorem namesA_arr {nm : Nm} {off len sz : Nat} : nm ∈ namesA (.arr nm off len sz) := by simp [namesA, nf]
theorem namesA_ref {nm : Nm} {off : Nat} : nm ∈ namesA (.ref nm off) := by simp [namesA, nf]

def seal1 (hp : HP) (a : AV) : Option (AV × List Nm) :=
  if nf a = true then some (a, []) else match a with
    | .arr nm off len sz => match sealA hp nm off len sz with
      | some s => some (s, [nm])
      | none => none
    | _ => none

def names1 (a : AV) : List Nm :=
  if nf a = true then [] else match a with
    | .ref nm _ => [nm]
    | .arr nm .. => [nm]
    | _ => []

theorem sealGo_cons {hp : HP} {a : AV} {l : List AV} : sealV.go hp (a :: l) = match seal1 hp a with
      | some (b, ns) => match sealV.go hp l with
        | some (l', ms) => some (b :: l', ns ++ ms)
        | none => none
      | none => none := rfl

theorem namesGo_cons {a : AV} {l : List AV} : namesA.go (a :: l) = names1 a ++ namesA.go l := rfl

theorem seal1_congr {hp hp' : HP} {a : AV} (h : ∀ nm ∈ names1 a, hp nm = hp' nm) : seal1 hp a = seal1 hp' a ∧ ∀ b ns, seal1 hp a = some (b, ns) → ∀ nm ∈ ns, nm ∈ names1 a := by
  cases hn : nf a with
  | true =>
    simp only [seal1, hn, if_true]
    exact ⟨trivial, fun b ns hs => by cases hs; simp⟩
  | false =>
    cases a with
    | arr nm off len sz =>
      have e : hp nm = hp' nm := h nm (by simp [names1, hn])
      simp only [seal1, hn, Bool.false_eq_true, if_false, sealA_congr e]
      refine ⟨trivial, fun b ns hs n hm => ?_⟩
      split at hs
      · cases hs; simp at hm; subst hm; simp [names1, hn]
      · cases hs
    | _ => refine ⟨by simp [seal1, hn], fun b ns hs => by simp [seal1, hn] at hs⟩

theorem sealGo_congr {hp hp' : HP} : ∀ {l : List AV}, (∀ nm ∈ namesA.go l, hp nm = hp' nm) → sealV.go hp l = sealV.go hp' l ∧ ∀ l' ns, sealV.go hp l = some (l', ns) → ∀ nm ∈ ns, nm ∈ namesA.go l
  | [], _ => ⟨rfl, fun l' ns h => by simp only [sealV.go, Option.some.injEq, Prod.mk.injEq] at h; obtain ⟨_, rfl⟩ := h; simp⟩
  | a :: l, h => by
    rw [namesGo_cons] at h
    have h2 := sealGo_congr (hp := hp) (hp' := hp') (l := l) (fun nm hm => h nm (List.mem_append_right _ hm))
    have h1 := seal1_congr (hp := hp) (hp' := hp') (a := a) (fun nm hm => h nm (List.mem_append_left _ hm))
    rw [sealGo_cons, sealGo_cons, ← h1.1, ← h2.1, namesGo_cons]
    refine ⟨rfl, fun l' ns hs nm hm => ?_⟩
    split at hs
    · rename_i b ms hb
      split at hs
      · rename_i r rs hr
        cases hs
        rcases List.mem_append.1 hm with hm | hm
        · exact List.mem_append_left _ (h1.2 _ _ hb nm hm)
        · exact List.mem_append_right _ (h2.2 _ _ hr nm hm)
      · cases hs
    · cases hs

theorem sealV_congr {hp hp' : HP} {a : AV} (h : ∀ nm ∈ namesA a, hp nm = hp' nm) : sealV hp a = sealV hp' a ∧ ∀ b ns, sealV hp a = some (b, ns) → ∀ nm ∈ ns, nm ∈ namesA a := by
  cases hn : nf a with
  | true =>
    simp only [sealV, hn, if_true]
    exact ⟨trivial, fun b ns hs => by cases hs; simp⟩
  | false =>
    cases a with
    | arr nm off len sz =>
      have e : hp nm = hp' nm := h nm namesA_arr
      simp only [sealV, hn, Bool.false_eq_true, if_false, sealA_congr e]
      refine ⟨trivial, fun b ns hs n hm => ?_⟩
      split at hs
      · cases hs; simp at hm; subst hm; exact namesA_arr
      · cases hs
    | agg cs =>
      have hnm : namesA (.agg cs) = namesA.go cs := by simp [namesA, hn]
      obtain ⟨g1, g2⟩ := sealGo_congr (hp := hp) (hp' := hp') (l := cs) (fun nm hm => h nm (by rw [hnm]; exact hm))
      simp only [sealV, hn, Bool.false_eq_true, if_false, ← g1]
      refine ⟨trivial, fun b ns hs n hm => ?_⟩
      split at hs
      · rename_i r rs hr
        cases hs
        rw [hnm]
        exact g2 _ _ hr n hm
      · cases hs
    | _ => refine ⟨by simp [sealV, hn], fun b ns hs => by simp [sealV, hn] at hs⟩

theorem sealCh_congr {hp hp' : HP} : ∀ {ns : List Nm}, (∀ nm ∈ ns, hp nm = hp' nm) → sealCh hp ns = sealCh hp' ns
  | [], _ => rfl
  | n :: l, h => by
    simp only [sealCh]
    rw [h n (by simp), sealCh_congr (ns := l) (fun nm hm => h nm (by simp [hm]))]

theorem loadA_congr {tt : TypeId → Option TI} {t : TypeId} {p : AV} {hp hp' : HP} (h : ∀ nm ∈ namesA p, hp nm = hp' nm) : loadA tt t p hp = loadA tt t p hp' := by
  unfold loadA
  split
  · rfl
  · split
    · rw [h _ namesA_ref]
    · rfl
    · rfl

theorem storeA_congr {tt : TypeId → Option TI} {t : TypeId} {p x : AV} {hp hp' : HP} (h : ∀ nm ∈ namesA p, hp nm = hp' nm) : storeA tt t p x hp = storeA tt t p x hp' := by
  unfold storeA
  split
  · rfl
  · split
    · rw [h _ namesA_ref]
    · rfl

theorem convA_congr {tt : TypeId → Option TI} {s d : TypeId} {x : AV} {hp hp' : HP} (h : ∀ nm ∈ namesA x, hp nm = hp' nm) : convA tt s d x hp = convA tt s d x hp' := by
  have e : ∀ nm off len sz, x = .arr nm off len sz → hp nm = hp' nm := fun nm off len sz hx => h nm (by rw [hx]; exact namesA_arr)
  clear h
  unfold convA
  split
  · split <;> first | rfl | (rename_i nm _ _ _ _; rw [e _ _ _ _ rfl])
  · rfl

theorem sliceA_congr {tt : TypeId → Option TI} {t : TypeId} {x : AV} {lo hi mx : Option AV} {hp hp' : HP} (h : ∀ nm ∈ namesA x, hp nm = hp' nm) : sliceA tt t x lo hi mx hp = sliceA tt t x lo hi mx hp' := by
  have e : ∀ nm off len sz, x = .arr nm off len sz → hp nm = hp' nm := fun nm off len sz hx => h nm (by rw [hx]; exact namesA_arr)
  have e2 : ∀ nm off, x = .ref nm off → hp nm = hp' nm := fun nm off hx => h nm (by rw [hx]; exact namesA_ref)
  clear h
  unfold sliceA
  split
  · rfl
  · split
    · rfl
    · rfl
    · rw [e _ _ _ _ rfl]
    · rename_i nm off _
      have e1 := e2 nm off rfl
      have e3 : ∀ a b c, sealA hp nm a b c = sealA hp' nm a b c := fun a b c => sealA_congr e1 a b c
      have e4 : sealCh hp [nm] = sealCh hp' [nm] := by simp only [sealCh, e1]
      simp only [e3, e4]
    · rfl

theorem newsA_congr {tt : TypeId → Option TI} {t : TypeId} {size : Nat} {x : AV} {hp hp' : HP} (h : ∀ nm ∈ namesA x, hp nm = hp' nm) : newsA tt t size x hp = newsA tt t size x hp' := by
  have e : ∀ nm off len sz, x = .arr nm off len sz → hp nm = hp' nm := fun nm off len sz hx => h nm (by rw [hx]; exact namesA_arr)
  clear h
  unfold newsA
  split
  · rfl
  · split <;> first | rfl | (rw [e _ _ _ _ rfl])

theorem appendA_congr {tt : TypeId → Option TI} {t tx : TypeId} {fr : Nm} {s x : AV} {hp hp' : HP} (h : ∀ nm ∈ namesA s, hp nm = hp' nm) (h' : ∀ nm ∈ namesA x, hp nm = hp' nm) : appendA tt t tx fr s x hp = appendA tt t tx fr s x hp' := by
  have e : ∀ t n, newsA tt t n x hp = newsA tt t n x hp' := fun t n => newsA_congr h'
  have e2 : ∀ nm off len sz, s = .arr nm off len sz → hp nm = hp' nm := fun nm off len sz hx => h nm (by rw [hx]; exact namesA_arr)
  clear h h'
  unfold appendA
  simp only [e]
  repeat' (first | rfl | (rw [e2 _ _ _ _ rfl]) | split)

theorem copyA_congr {tt : TypeId → Option TI} {t tx : TypeId} {s x : AV} {hp hp' : HP} (h : ∀ nm ∈ namesA s, hp nm = hp' nm) (h' : ∀ nm ∈ namesA x, hp nm = hp' nm) : copyA tt t tx s x hp = copyA tt t tx s x hp' := by
  have e : ∀ t n, newsA tt t n x hp = newsA tt t n x hp' := fun t n => newsA_congr h'
  have e2 : ∀ nm off len sz, s = .arr nm off len sz → hp nm = hp' nm := fun nm off len sz hx => h nm (by rw [hx]; exact namesA_arr)
  clear h h'
  unfold copyA
  simp only [e]
  repeat' (first | rfl | (rw [e2 _ _ _ _ rfl]) | split)

theorem partsA_congr {hp hp' : HP} : ∀ {ps : List (Nat × AV)}, (∀ p ∈ ps, ∀ nm ∈ namesA p.2, hp nm = hp' nm) → partsA hp ps = partsA hp' ps ∧ ∀ r ns, partsA hp ps = some (r, ns) → ∀ nm ∈ ns, ∃ p ∈ ps, nm ∈ namesA p.2
  | [], _ => ⟨rfl, fun r ns h => by simp only [partsA, Option.some.injEq, Prod.mk.injEq] at h; obtain ⟨_, rfl⟩ := h; simp⟩
  | (i, x) :: l, h => by
    obtain ⟨g1, g2⟩ := sealV_congr (hp := hp) (hp' := hp') (a := x) (h (i, x) (by simp))
    obtain ⟨k1, k2⟩ := partsA_congr (hp := hp) (hp' := hp') (ps := l) (fun p hp => h p (by simp [hp]))
    refine ⟨by simp only [partsA, g1, k1], fun r ns hs nm hm => ?_⟩
    simp only [partsA] at hs
    split at hs
    · cases hs
    · rename_i a ms ha
      split at hs
      · rename_i r' rs' hr'
        cases hs
        rcases List.mem_append.1 hm with hm | hm
        · exact ⟨(i, x), by simp, g2 _ _ ha nm hm⟩
        · obtain ⟨p, q1, q2⟩ := k2 _ _ hr' nm hm
          exact ⟨p, by simp [q1], q2⟩
      · cases hs

theorem buildSliceA_congr {tt : TypeId → Option TI} {t : TypeId} {n : Nat} {ps : List (Nat × AV)} {hp hp' : HP} (h : ∀ p ∈ ps, ∀ nm ∈ namesA p.2, hp nm = hp' nm) : buildSliceA tt t n ps hp = buildSliceA tt t n ps hp' := by
  obtain ⟨g1, g2⟩ := partsA_congr (hp := hp) (hp' := hp') h
  have e : ∀ r ns, partsA hp' ps = some (r, ns) → sealCh hp ns = sealCh hp' ns := fun r ns hpa => sealCh_congr (fun nm hm => by
      obtain ⟨p, q1, q2⟩ := g2 _ _ (by rw [g1]; exact hpa) nm hm
      exact h p q1 nm q2)
  clear h g2
  unfold buildSliceA
  rw [g1]
  clear g1
  split
  · rfl
  · split
    · split
      · rfl
      · split
        · rename_i hpa
          rw [e _ _ hpa]
        · rfl
    · rfl

theorem builtinA_congr {tt : TypeId → Option TI} {b : Builtin} {ts : List TypeId} {fr : Nm} {xs : List AV} {hp hp' : HP} (h : ∀ x ∈ xs, ∀ nm ∈ namesA x, hp nm = hp' nm) : builtinA tt b ts fr xs hp = builtinA tt b ts fr xs hp' := by
  unfold builtinA
  split
  · rfl
  · exact appendA_congr (h _ (by simp)) (h _ (by simp))
  · exact copyA_congr (h _ (by simp)) (h _ (by simp))
  · rfl
  · rfl
  · rfl

/-- An operation looks at its operands, and at the objects whose names stand in them. -/
theorem evalOp_congr {tt : TypeId → Option TI} {op : Op} {fr : Nm} {g g' : Operand → AV} {hp hp' : HP} (hg : ∀ x ∈ op.operands, g x = g' x) (hh : ∀ x ∈ op.operands, ∀ nm ∈ namesA (g x), hp nm = hp' nm) :
    evalOp tt op fr g hp = evalOp tt op fr g' hp' := by
  have parts : ∀ (ps : Array (Nat × Operand)), (∀ x ∈ (ps.toList.map (·.2)), g x = g' x) → (ps.toList.map fun (i, x) => (i, g x)) = ps.toList.map fun (i, x) => (i, g' x) := fun ps hp =>
    List.map_congr_left fun p hm => by
      obtain ⟨i, x⟩ := p
      simp only [hp x (List.mem_map.2 ⟨(i, x), hm, rfl⟩)]
  cases op with
  | move x => simp only [evalOp]; rw [hg x (by simp [Op.operands])]
  | assign x => simp only [evalOp]; rw [hg x (by simp [Op.operands])]
  | pick c a b => simp only [evalOp]; rw [hg c (by simp [Op.operands]), hg a (by simp [Op.operands]), hg b (by simp [Op.operands])]
  | alloc t => rfl
  | box t x => simp only [evalOp]; rw [hg x (by simp [Op.operands])]
  | build t ps =>
    simp only [evalOp]
    rw [parts ps (fun x hx => hg x (by simpa [Op.operands] using hx))]
  | buildSlice t n ps =>
    simp only [evalOp]
    have e := parts ps (fun x hx => hg x (by simpa [Op.operands] using hx))
    rw [buildSliceA_congr (hp := hp) (hp' := hp') ?_, e]
    intro p hp nm hm
    obtain ⟨⟨i, x⟩, q1, rfl⟩ := List.mem_map.1 hp
    exact hh x (by simp [Op.operands]; exact ⟨i, by simpa using q1⟩) nm hm
  | load t p => simp only [evalOp]; rw [loadA_congr (hh p (by simp [Op.operands])), hg p (by simp [Op.operands])]
  | store t p x => simp only [evalOp]; rw [storeA_congr (hh p (by simp [Op.operands])), hg p (by simp [Op.operands]), hg x (by simp [Op.operands])]
  | nilCheck x => simp only [evalOp]; rw [hg x (by simp [Op.operands])]
  | binOp op t x y t' => simp only [evalOp]; rw [hg x (by simp [Op.operands]), hg y (by simp [Op.operands])]
  | unOp op t x => simp only [evalOp]; rw [hg x (by simp [Op.operands])]
  | convert s d x => simp only [evalOp]; rw [convA_congr (hh x (by simp [Op.operands])), hg x (by simp [Op.operands])]
  | makeSlice t l c => simp only [evalOp]; rw [hg l (by simp [Op.operands]), hg c (by simp [Op.operands])]
  | slice t x lo hi mx =>
    simp only [evalOp]
    have e1 : lo.map g = lo.map g' := by cases lo with | none => rfl | some y => simp [hg y (by simp [Op.operands])]
    have e2 : hi.map g = hi.map g' := by cases hi with | none => rfl | some y => simp [hg y (by simp [Op.operands])]
    have e3 : mx.map g = mx.map g' := by cases mx with | none => rfl | some y => simp [hg y (by simp [Op.operands])]
    rw [sliceA_congr (hh x (by simp [Op.operands])), hg x (by simp [Op.operands]), e1, e2, e3]
  | fieldAddr t x f => simp only [evalOp]; rw [hg x (by simp [Op.operands])]
  | field t x f => simp only [evalOp]; rw [hg x (by simp [Op.operands])]
  | indexAddr t x ix => simp only [evalOp]; rw [hg x (by simp [Op.operands]), hg ix (by simp [Op.operands])]
  | index t x ix => simp only [evalOp]; rw [hg x (by simp [Op.operands]), hg ix (by simp [Op.operands])]
  | extract t ix => simp only [evalOp]; rw [hg t (by simp [Op.operands])]
  | call c =>
    obtain ⟨callee, args, tys⟩ := c
    cases callee with
    | builtin b =>
      simp only [evalOp]
      have e : args.toList.map g = args.toList.map g' := List.map_congr_left fun x hx => hg x (by simp [Op.operands, Call.operands]; simpa using hx)
      rw [builtinA_congr (hp := hp) (hp' := hp') ?_, e]
      intro x hx nm hm
      obtain ⟨y, q1, rfl⟩ := List.mem_map.1 hx
      exact hh y (by simp [Op.operands, Call.operands]; simpa using q1) nm hm
    | _ => rfl
  | _ => rfl

theorem prep1_congr {byref : Bool} {hp hp' : HP} {j : Nat} {a : AV} (h : ∀ nm ∈ namesA a, hp nm = hp' nm) : prep1 byref hp j a = prep1 byref hp' j a ∧ ∀ b o ns, prep1 byref hp j a = some (b, o, ns) → ∀ nm ∈ ns, nm ∈ namesA a := by
  obtain ⟨g1, g2⟩ := sealV_congr h
  cases hn : nf a with
  | true =>
    simp only [prep1, hn, if_true]
    exact ⟨trivial, fun b o ns hs => by cases hs; simp⟩
  | false =>
    cases a with
    | ref nm off =>
      have e := h nm namesA_ref
      simp only [prep1, hn, Bool.false_eq_true, if_false, e]
      refine ⟨trivial, fun b o ns hs nm hm => ?_⟩
      split at hs
      · split at hs
        · cases hs; cases hm
        · cases hs
      · cases hs
    | arr nm off len sz =>
      have e := h nm namesA_arr
      simp only [prep1, hn, Bool.false_eq_true, if_false, sealA_congr e, e]
      refine ⟨trivial, fun b o ns hs n hm => ?_⟩
      split at hs
      · split at hs
        · split at hs
          · cases hs; cases hm
          · cases hs
        · cases hs
      · split at hs
        · cases hs; simp at hm; subst hm; exact namesA_arr
        · cases hs
    | _ =>
      simp only [prep1, hn, Bool.false_eq_true, if_false, ← g1]
      refine ⟨trivial, fun b o ns hs n hm => ?_⟩
      split at hs
      · rename_i s ns' hse
        cases hs
        exact g2 _ _ hse n hm
      · cases hs

theorem prep_congr {byref : Bool} {hp hp' : HP} : ∀ {l : List AV} {j : Nat}, (∀ a ∈ l, ∀ nm ∈ namesA a, hp nm = hp' nm) → prep byref hp j l = prep byref hp' j l ∧ ∀ pr, prep byref hp j l = some pr → ∀ nm ∈ pr.ns, ∃ a ∈ l, nm ∈ namesA a
  | [], j, _ => ⟨rfl, fun pr h => by simp only [prep, Option.some.injEq] at h; subst h; simp⟩
  | a :: l, j, h => by
    obtain ⟨g1, g2⟩ := prep1_congr (byref := byref) (j := j) (h a (by simp))
    obtain ⟨k1, k2⟩ := prep_congr (byref := byref) (l := l) (j := j + 1) (fun b hb => h b (by simp [hb]))
    refine ⟨by simp only [prep, g1, k1], fun pr hs nm hm => ?_⟩
    simp only [prep] at hs
    split at hs
    · cases hs
    · rename_i b o ns hb
      split at hs
      · rename_i pr' hpr'
        cases hs
        rcases List.mem_append.1 hm with hm | hm
        · exact ⟨a, by simp, g2 _ _ _ hb nm hm⟩
        · obtain ⟨c, q1, q2⟩ := k2 _ hpr' nm hm
          exact ⟨c, by simp [q1], q2⟩
      · cases hs

/-- What one operation does, one thing. -/
def Deed1 (P : Program) (E : Env) (i : Nat) (o : Oper) (st : St) (v : AV) (ch : Ch) : Prop := WOpD P E i o st fun v' ch' => v' = v ∧ ch' = ch

theorem WOpD_deed {P : Program} {E : Env} {i : Nat} {o : Oper} {st : St} {Q : AV → Ch → Prop} (h : WOpD P E i o st Q) : ∃ v ch, Deed1 P E i o st v ch ∧ Q v ch := by
  unfold WOpD at h
  unfold Deed1 WOpD
  split at h
  · unfold WCallD at h ⊢
    split at h
    · split at h
      · rename_i pr hpr
        obtain ⟨h1, rs, objs', ex, h2, h3⟩ := h
        exact ⟨_, _, ⟨h1, rs, objs', ex, h2, rfl, rfl⟩, h3⟩
      · exact h.elim
    · exact h.elim
  · split at h
    · rename_i v ch he
      exact ⟨v, ch, ⟨rfl, rfl⟩, h⟩
    · exact h.elim

theorem Deed1_congr {P : Program} {E : Env} {i : Nat} {o : Oper} {st st' : St} {v : AV} {ch : Ch} (h : Deed1 P E i o st v ch) (hg : ∀ x ∈ o.op.operands, Ab.get st.tm x = Ab.get st'.tm x)
    (hh : ∀ nm ∈ seen o.op st.tm, st.hp nm = st'.hp nm) (hc : st.clk = st'.clk) : Deed1 P E i o st' v ch := by
  have hh' : ∀ x ∈ o.op.operands, ∀ nm ∈ namesA (Ab.get st.tm x), st.hp nm = st'.hp nm := fun x hx nm hm => hh nm (by
    unfold seen; exact List.mem_flatMap.2 ⟨x, by simpa using hx, hm⟩)
  unfold Deed1 WOpD at h ⊢
  rw [← hc]
  split at h
  · rename_i f args tys ho
    rw [ho] at hg hh'
    have hf := hg f (by simp [Op.operands, Call.operands])
    have e : args.toList.map (Ab.get st.tm) = args.toList.map (Ab.get st'.tm) := List.map_congr_left fun x hx => hg x (by simp only [Op.operands, Call.operands]; exact Array.mem_append_right _ (by simpa using hx))
    have hn : ∀ a ∈ args.toList.map (Ab.get st.tm), ∀ nm ∈ namesA a, st.hp nm = st'.hp nm := by
      intro a ha nm hm
      obtain ⟨x, q1, rfl⟩ := List.mem_map.1 ha
      exact hh' x (by simp only [Op.operands, Call.operands]; exact Array.mem_append_right _ (by simpa using q1)) nm hm
    obtain ⟨p1, p2⟩ := prep_congr (byref := E.byref (match Ab.get st.tm f with | .fn fid => fid | _ => 0)) (j := 0) hn
    rw [← hf, ← e]
    unfold WCallD at h ⊢
    split at h
    · rename_i fid hfid
      simp only [hfid] at p1 p2
      simp only [← p1]
      split at h
      · rename_i pr hpr
        have es : sealCh st.hp pr.ns = sealCh st'.hp pr.ns := sealCh_congr (fun nm hm => by
          obtain ⟨a, q1, q2⟩ := p2 pr hpr nm hm
          exact hn a q1 nm q2)
        rw [← es]
        exact h
      · exact h.elim
    · exact h.elim
  · rename_i hno
    rw [← evalOp_congr hg hh']
    exact h

end Go.Ab
