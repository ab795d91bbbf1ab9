/- THE ABSTRACT MACHINE, 14: the weakest precondition of a code is sound (statements whose order is open: AbDraw). Conditions: the table of types is the program's. -/
import Derived.Test.YthbbollhojdjdaaAbCall
namespace Go.Ab
set_option linter.unusedSimpArgs false

theorem run_call {P : Program} {fid : FuncId} (hf : ∃ fn, P.funcs[fid]? = some fn ∧ (fn.name == "runtime.NumGoroutine") = false ∧ fn.body.isSome = true) {ρ : Operand → Value} {f : Operand} (hρ : ρ f = .func (.func fid) #[] #[]) (args : Array Operand) (tys : Array TypeId)
    (dst : Option Tmp) (type : TypeId) (pos : String) (after : Array Edge) (guard : Option (Nat × Bool)) (w : World) :
    (execOp ρ ⟨dst, .call { callee := .value f, args, argTypes := tys }, type, pos, after, guard⟩).run P w = .ok (.enter fid (args.map ρ)) w := by
  obtain ⟨fn, h1, h2, h3⟩ := hf
  have h4 : fn.body ≠ none := by intro hb; rw [hb] at h3; cases h3
  have h5 : fn.name ≠ "runtime.NumGoroutine" := by simpa using h2
  simp [execOp, resolve, hρ, Deferred.ofValue, invoke, callFunc, h1, h4, h5]

section
variable {P : Program} {E : Env} (hT : TTok P E.tt)

theorem wp_call {C : Ctx} {dn dn' : Nat → Prop} {S : SM} {ι : NM} {st : St} {a : Act} {w : World} (h : R C dn S ι st a w) {i : Nat} (hi : ¬ dn i) (hi' : dn' i) (hdn : ∀ j, dn j → dn' j) {o : Oper} (hd : dstOk C.n o.dst = true)
    {f : Operand} {args : Array Operand} {tys : Array TypeId} (ho : o.op = .call { callee := .value f, args, argTypes := tys }) {Q : AV → Ch → Prop}
    (hw : WCall P E (freshOf o i st.clk) (get st.tm f) (args.toList.map (get st.tm)) st.hp Q) {K : Act → World → Prop} {Qx : Exit → Act → World → Prop}
    (hK : ∀ v ch S' ι' a' w', Q v ch → R C dn' S' ι' (st.app o v ch) a' w' → K a' w') : o.wp P a w K Qx := by
  unfold WCall at hw
  split at hw
  rotate_left
  · exact hw.elim
  rename_i fid hfid
  split at hw
  rotate_left
  · exact hw.elim
  rename_i pr hpr
  obtain ⟨hdis, hc⟩ := hw
  have hfv := h.eval f
  rw [hfid] at hfv
  have hρ := hfv.fn_inv
  obtain ⟨dst, op, type, pos, after, guard⟩ := o
  simp only at ho
  subst ho
  have hrun := run_call (P := P) hc.1 hρ args tys dst type pos after guard w
  unfold Oper.wp
  rw [hrun]
  rw [Oper.upon_enter]
  have hcall := call_ok (fresh := .loc (dst.getD 0) i st.clk) (vs := (args.map a.eval).toList) h.hr (h.fresh hi _) hpr hdis (by simp) (fun i h1 h2 => by
    simp only [List.getElem_map, Array.getElem_toList, Array.getElem_map]; exact h.eval _) hc
  refine Calls.mono hcall ?_
  rintro e w' ⟨rs, objs', ex, val, S', ι', hQ, rfl, hv, hm⟩
  exact hK _ _ _ _ _ _ hQ (h.step hi' hdn hd hv hm)

include hT

theorem wp_op {C : Ctx} {dn dn' : Nat → Prop} {S : SM} {ι : NM} {st : St} {a : Act} {w : World} (h : R C dn S ι st a w) {i : Nat} (hi : ¬ dn i) (hi' : dn' i) (hdn : ∀ j, dn j → dn' j) {o : Oper} (hd : dstOk C.n o.dst = true)
    {Q : AV → Ch → Prop} (hw : WOp P E i o st Q) {K : Act → World → Prop} {Qx : Exit → Act → World → Prop}
    (hK : ∀ v ch S' ι' a' w', Q v ch → R C dn' S' ι' (st.app o v ch) a' w' → K a' w') : o.wp P a w K Qx := by
  unfold WOp at hw
  split at hw
  · rename_i f args tys ho
    exact wp_call h hi hi' hdn hd ho hw hK
  · split at hw
    · rename_i v ch he
      exact wp_plain hT h hi hi' hdn hd he (fun S' ι' a' w' hR => hK _ _ _ _ _ _ hw hR)
    · exact hw.elim

omit hT in
/-- A skipped operation. -/
theorem R.skip {C : Ctx} {dn dn' : Nat → Prop} {S : SM} {ι : NM} {st : St} {a : Act} {w : World} (h : R C dn S ι st a w) {i : Nat} (hi' : dn' i) (hdn : ∀ j, dn j → dn' j) {o : Oper} (hd : dstOk C.n o.dst = true) :
    R C dn' S ι (st.app o (.tup []) []) (a.put o.dst undef) w :=
  h.step (i := i) hi' hdn hd (.tup [] [] rfl (fun i hi => by simp at hi)) (Mv.refl h.hr)

theorem wops_ok {C : Ctx} {ops : Array Oper} (hd : ∀ o ∈ ops.toList, dstOk C.n o.dst = true) {Qx : Exit → Act → World → Prop} : ∀ (k i : Nat) {S : SM} {ι : NM} {st : St} {a : Act} {w : World} {Q : St → Prop}, i + k = ops.size →
    R C (fun j => j < i) S ι st a w → WOps P E ops i (ops.toList.drop i) st Q → (∀ S' ι' st' a' w', Q st' → R C (fun j => j < ops.size) S' ι' st' a' w' → st'.clk = st.clk → Qx .normal a' w') →
    wpOps P ops Qx (List.range' i k) a w
  | 0, i, S, ι, st, a, w, Q, hk, hR, hW, hQ => by
    have : ops.toList.drop i = [] := List.drop_eq_nil_of_le (by simp; omega)
    rw [this] at hW
    simp only [WOps] at hW
    simp only [List.range'_zero, wpOps]
    have : i = ops.size := by omega
    subst this
    exact hQ _ _ _ _ _ hW hR rfl
  | k + 1, i, S, ι, st, a, w, Q, hk, hR, hW, hQ => by
    have hlt : i < ops.size := by omega
    have hdr : ops.toList.drop i = ops[i] :: ops.toList.drop (i + 1) := by
      rw [List.drop_eq_getElem_cons (by simpa using hlt)]
      simp
    rw [hdr] at hW
    have hget : ops[i]? = some ops[i] := Array.getElem?_eq_getElem hlt
    have hdo : dstOk C.n ops[i].dst = true := hd _ (by simp)
    simp only [WOps] at hW
    simp only [List.range'_succ, wpOps, hget]
    split at hW
    · rename_i hw
      have := want_ok hR hw
      simp only [this, if_true]
      refine .inl (wp_op hT hR (dn' := fun j => j < i + 1) (by omega) (by omega) (fun j hj => by omega) hdo hW ?_)
      intro v ch S' ι' a' w' hq hR'
      exact wops_ok hd k (i + 1) (by omega) hR' hq (fun S' ι' st' a' w' h1 h2 h3 => hQ _ _ _ _ _ h1 h2 (by rw [h3]; rfl))
    · rename_i hw
      have := want_ok hR hw
      simp only [this, Bool.false_eq_true, if_false]
      exact wops_ok hd k (i + 1) (by omega) (R.skip hR (i := i) (by omega) (fun j hj => by omega) hdo) hW (fun S' ι' st' a' w' h1 h2 h3 => hQ _ _ _ _ _ h1 h2 (by rw [h3]; rfl))
    · exact hW.elim

omit hT in
theorem R.tick {C : Ctx} {n : Nat} {S : SM} {ι : NM} {st : St} {a : Act} {w : World} (h : R C (fun j => j < n) S ι st a w) : R C (fun _ => False) S ι st.tick a w :=
  ⟨h.size, h.tm, h.defers, h.hr, h.sle, h.snew, h.fr, h.own, h.ile, h.arg, fun d i c hh => by
    rcases h.dom d i c hh with e | ⟨e, _⟩
    · exact .inl (Nat.lt_succ_of_lt e)
    · exact .inl (by rw [e]; exact Nat.lt_succ_self _)⟩

/-- The weakest precondition of a statement whose order is open is sound: proved in AbDraw. -/
def DrawOk (P : Program) (E : Env) : Prop := ∀ (C : Ctx) (id : Nat) (ops : Array Oper), codeOK C.n (.region id ops true) = true → ∀ (S : SM) (ι : NM) (st : St) (a : Act) (w : World) (Q : St → Prop) (Qx : Exit → Act → World → Prop),
  R C (fun _ => False) S ι st a w → WOpsD P E ops 0 ops.toList st [] (fun st' acc => confFree (ahead ops) acc = true ∧ Q st'.tick) → (∀ S' ι' st' a' w', Q st' → R C (fun _ => False) S' ι' st' a' w' → Qx .normal a' w') → (Code.region id ops true).wp P Qx a w

/-- What an exit's state says. -/
def Post (C : Ctx) (Q : Exit → St → Prop) (e : Exit) (a : Act) (w : World) : Prop := ∃ S ι st, R C (fun _ => False) S ι st a w ∧ Q e st

theorem W_ok (hD : DrawOk P E) {C : Ctx} : ∀ (c : Code), codeOK C.n c = true → ∀ {S : SM} {ι : NM} {st : St} {a : Act} {w : World} {Q : Exit → St → Prop}, R C (fun _ => False) S ι st a w → W P E c st Q → c.wp P (Post C Q) a w
  | .skip, _, S, ι, st, a, w, Q, hR, hW => wp_skip ⟨S, ι, st, hR, hW⟩
  | .label l, _, S, ι, st, a, w, Q, hR, hW => wp_label ⟨S, ι, st, hR, hW⟩
  | .region id ops false, hc, S, ι, st, a, w, Q, hR, hW => by
    refine wp_region ?_
    simp only [W] at hW
    rw [List.range_eq_range']
    refine wops_ok hT (fun o ho => ?_) ops.size 0 (by omega) (hR.mono (fun _ h => h.elim)) (by simpa using hW) (fun S' ι' st' a' w' hq hR' _ => ⟨S', ι', _, hR'.tick, hq⟩)
    simp only [codeOK, Bool.not_false, Bool.true_or, Bool.and_true, List.all_eq_true] at hc
    exact hc o ho
  | .region id ops true, hc, S, ι, st, a, w, Q, hR, hW => hD C id ops hc S ι st a w (fun st' => Q .normal st') _ hR hW (fun S' ι' st' a' w' hq hR' => ⟨S', ι', st', hR', hq⟩)
  | .seq x y, hc, S, ι, st, a, w, Q, hR, hW => by
    simp only [codeOK, Bool.and_eq_true] at hc
    refine wp_seq (wp_mono (W_ok hD x hc.1 hR hW) ?_)
    rintro e a' w' ⟨S', ι', st', hR', hq⟩
    cases e with
    | normal => exact W_ok hD y hc.2 hR' hq
    | _ => exact ⟨S', ι', st', hR', hq⟩
  | .cond c x y, hc, S, ι, st, a, w, Q, hR, hW => by
    simp only [codeOK, Bool.and_eq_true] at hc
    simp only [W] at hW
    split at hW
    · rename_i t ht
      have hv := hR.eval c
      rw [ht] at hv
      refine wp_cond_split hv.bool_inv (fun h => W_ok hD x hc.1 hR (hW.1 h)) (fun h => W_ok hD y hc.2 hR (hW.2 h))
    · exact hW.elim
  | .block id c, hc, S, ι, st, a, w, Q, hR, hW => by
    simp only [codeOK] at hc
    refine wp_block (wp_mono (W_ok hD c hc hR hW) ?_)
    rintro e a' w' ⟨S', ι', st', hR', hq⟩
    cases e with
    | exit id' =>
      simp only at hq
      simp only [Exit.inBlock]
      split
      · rename_i h; rw [if_pos h] at hq; exact ⟨S', ι', st', hR', hq⟩
      · rename_i h; rw [if_neg h] at hq; exact ⟨S', ι', st', hR', hq⟩
    | _ => exact ⟨S', ι', st', hR', hq⟩
  | .loop c, hc, S, ι, st, a, w, Q, hR, hW => by
    simp only [codeOK] at hc
    obtain ⟨I, μ, h0, hround⟩ := hW
    intro b k cs
    have key : ∀ (n : Nat) (S : SM) (ι : NM) (st : St) (a : Act) (w : World), μ st = n → I st → R C (fun _ => False) S ι st a w →
        ∃ e a' w', Post C Q e a' w' ∧ Arrives P (lone (b.at a (.code c :: .inLoop c :: k)) cs w) b k cs e a' w' := by
      intro n
      induction n using Nat.strongRecOn with
      | _ n ih =>
        intro S ι st a w hn hI hR
        obtain ⟨e, a1, w1, ⟨S', ι', st', hR', hq⟩, harr⟩ := W_ok hD c hc hR (hround st hI) b (.inLoop c :: k) cs
        cases e with
        | normal =>
          obtain ⟨hI', hlt⟩ := hq
          obtain ⟨e2, a2, w2, hq2, harr2⟩ := ih (μ st') (hn ▸ hlt) S' ι' st' a1 w1 rfl hI' hR'
          exact ⟨e2, a2, w2, hq2, .of_steps (Steps.trans harr (.one step_inLoop)) harr2⟩
        | exit id => exact ⟨_, a1, w1, ⟨S', ι', st', hR', hq⟩, .pass (x := .inLoop c) rfl (fun _ _ => .inl (by simp)) harr⟩
        | goto l => exact ⟨_, a1, w1, ⟨S', ι', st', hR', hq⟩, .pass (x := .inLoop c) rfl (fun _ _ => .inl (by simp)) harr⟩
        | ret => exact ⟨_, a1, w1, ⟨S', ι', st', hR', hq⟩, .pass (x := .inLoop c) rfl (fun _ _ => .inl (by simp)) harr⟩
        | panic ch => exact ⟨_, a1, w1, ⟨S', ι', st', hR', hq⟩, .pass (x := .inLoop c) rfl (fun _ _ => .inl (by simp)) harr⟩
        | outgrown => exact ⟨_, a1, w1, ⟨S', ι', st', hR', hq⟩, .pass (x := .inLoop c) rfl (fun _ _ => .inl (by simp)) harr⟩
    obtain ⟨e, a', w', hq, harr⟩ := key _ S ι st a w rfl h0 hR
    exact ⟨e, a', w', hq, .of_steps (.one step_loop) harr⟩
  | .scope c, hc, S, ι, st, a, w, Q, hR, hW => by
    simp only [codeOK] at hc
    refine wp_scope_straight (wp_mono (W_ok hD c hc hR hW) ?_)
    rintro e a' w' ⟨S', ι', st', hR', hq⟩
    cases e with
    | goto l => exact hq.elim
    | _ => exact ⟨S', ι', st', hR', hq⟩
  | .exit id, _, S, ι, st, a, w, Q, hR, hW => wp_exit ⟨S, ι, st, hR, hW⟩
  | .ret, _, S, ι, st, a, w, Q, hR, hW => wp_ret ⟨S, ι, st, hR, hW⟩
  | .rangeFunc .., hc, _, _, _, _, _, _, _, _ => by simp [codeOK] at hc
  | .goto _, hc, _, _, _, _, _, _, _, _ => by simp [codeOK] at hc
  | .refuse _, hc, _, _, _, _, _, _, _, _ => by simp [codeOK] at hc

end
end Go.Ab
