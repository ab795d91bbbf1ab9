/- THE ABSTRACT MACHINE, 12: the weakest precondition is sound; statements in the text's order. Conditions: the table of types is the program's. -/
import Derived.Test.YthbbollhojdjdaaAbOps9
import Derived.Scope
namespace Go.Ab
set_option linter.unusedSimpArgs false

/-- What is the same all through a call. -/
structure Ctx where
  w0 : World
  pb : Nat → Prop
  S0 : SM
  ι0 : NM
  n : Nat

/-- An abstract state and a real one. -/
structure R (C : Ctx) (dn : Nat → Prop) (S : SM) (ι : NM) (st : St) (a : Act) (w : World) : Prop where
  size : a.tmps.size = C.n
  tm : ∀ t, VT S ι (st.tm t) (a.tmps.getD t undef)
  defers : a.defers = []
  hr : HR S ι st.hp w
  sle : SLe C.S0 S
  snew : ∀ b o, S b = some o → C.S0 b = some o ∨ C.w0.heap.size ≤ b ∨ C.pb b
  fr : Fr C.w0 C.pb w
  own : ∀ b, Owned ι st.hp b → C.w0.heap.size ≤ b ∨ C.pb b
  ile : ILe C.ι0 ι
  arg : ∀ k, ι (.arg k) ≠ none → C.ι0 (.arg k) ≠ none
  dom : ∀ d i c, ι (.loc d i c) ≠ none → c < st.clk ∨ (c = st.clk ∧ dn i)

theorem R.mono {C : Ctx} {dn dn' : Nat → Prop} {S : SM} {ι : NM} {st : St} {a : Act} {w : World} (h : R C dn S ι st a w) (hd : ∀ i, dn i → dn' i) : R C dn' S ι st a w :=
  { h with dom := fun d i c hh => (h.dom d i c hh).imp id fun ⟨e, k⟩ => ⟨e, hd i k⟩ }

theorem R.fresh {C : Ctx} {dn : Nat → Prop} {S : SM} {ι : NM} {st : St} {a : Act} {w : World} (h : R C dn S ι st a w) {i : Nat} (hi : ¬ dn i) (d : Nat) : ι (.loc d i st.clk) = none := by
  cases hh : ι (.loc d i st.clk) with
  | none => rfl
  | some l =>
    exfalso
    rcases h.dom d i st.clk (by simp [hh]) with e | ⟨_, e⟩
    · omega
    · exact hi e

theorem R.eval {C : Ctx} {dn : Nat → Prop} {S : SM} {ι : NM} {st : St} {a : Act} {w : World} (h : R C dn S ι st a w) (x : Operand) : VT S ι (get st.tm x) (a.eval x) := by
  cases x with
  | tmp t => exact h.tm t
  | const v => exact ofV_ok S ι v
  | global g => exact .undef _
  | func f => exact .v (.fn f)

/-- Behind an operation. -/
theorem R.step {C : Ctx} {dn dn' : Nat → Prop} {S : SM} {ι : NM} {st : St} {a : Act} {w : World} (h : R C dn S ι st a w) {i : Nat} (hi' : dn' i) (hdn : ∀ j, dn j → dn' j) {o : Oper} (hd : dstOk C.n o.dst = true) {v : AV} {ch : Ch} {val : Value} {S' : SM} {ι' : NM} {w' : World}
    (hv : VT S' ι' v val) (hm : Mv (freshOf o i st.clk) S ι st.hp w S' ι' (chg st.hp ch) w') : R C dn' S' ι' (st.app o v ch) (a.put o.dst val) w' := by
  have hput : ∀ t, VT S' ι' (put st.tm o.dst v t) ((a.put o.dst val).tmps.getD t undef) := by
    intro t
    cases ho : o.dst with
    | none => exact (h.tm t).mono hm.sle hm.ile
    | some d =>
      rw [ho] at hd
      simp only [dstOk, Nat.blt_eq] at hd
      simp only [put, upd, Act.put]
      split
      · rename_i htd
        have hlt : d < a.tmps.size := by rw [h.size]; exact hd
        rw [htd]
        simpa [Array.getD, hlt] using hv
      · rename_i hne
        have := (h.tm t).mono hm.sle hm.ile
        have e : (a.tmps.setIfInBounds d val).getD t undef = a.tmps.getD t undef := by
          simp only [Array.getD_eq_getD_getElem?, Array.getElem?_setIfInBounds_ne (Ne.symm hne)]
        rw [e]; exact this
  refine ⟨?_, hput, ?_, hm.hr, h.sle.trans hm.sle, ?_, ?_, ?_, h.ile.trans hm.ile, ?_, ?_⟩
  · cases ho : o.dst with
    | none => simpa [Act.put] using h.size
    | some d => simpa [Act.put] using h.size
  · cases ho : o.dst <;> simpa [Act.put] using h.defers
  · intro b o' hs
    rcases hm.snew b o' hs with q | q | q
    · exact h.snew b o' q
    · exact .inr (.inl (Nat.le_trans h.fr.size q))
    · exact .inr (h.own b q)
  · refine ⟨hm.os.trans h.fr.os, hm.tape.trans h.fr.tape, hm.output.trans h.fr.output, Nat.le_trans h.fr.size hm.size, fun b hb hp => ?_⟩
    rw [hm.frame b (Nat.lt_of_lt_of_le hb h.fr.size) (fun ho => by
      rcases h.own b ho with q | q
      · omega
      · exact hp q)]
    exact h.fr.block b hb hp
  · intro b ho
    rcases hm.own b ho with q | q
    · exact .inl (Nat.le_trans h.fr.size q)
    · exact h.own b q
  · intro k hk
    rcases hm.dom _ hk with q | q
    · exact h.arg k q
    · cases q
  · intro d j c hk
    rcases hm.dom _ hk with q | q
    · rcases h.dom d j c q with e | ⟨e, k⟩
      · exact .inl e
      · exact .inr ⟨e, hdn j k⟩
    · simp only [freshOf, Nm.loc.injEq] at q
      obtain ⟨_, rfl, rfl⟩ := q
      exact .inr ⟨rfl, hi'⟩

theorem want_ok {C : Ctx} {dn : Nat → Prop} {S : SM} {ι : NM} {st : St} {a : Act} {w : World} (h : R C dn S ι st a w) {ops : Array Oper} {o : Oper} {b : Bool} (hw : wantA ops o st.tm = some b) : Region.wanted o (yielded ops a.tmps) = b := by
  unfold wantA at hw
  unfold Region.wanted
  split at hw
  · rename_i hg
    cases hw
    simp [hg]
  · rename_i j want hg
    simp only [hg]
    split at hw
    · cases hw
    · rename_i t ht
      have hv := h.tm t
      split at hw
      · rename_i b' hb'
        cases hw
        rw [hb'] at hv
        have := hv.bool_inv
        have hlt : t < a.tmps.size := by
          rcases Nat.lt_or_ge t a.tmps.size with hh | hh
          · exact hh
          · simp [Array.getD, Nat.not_lt.2 hh, undef] at this
        have hget : a.tmps[t]? = some (.bool b') := by
          simp only [Array.getD, hlt, dif_pos] at this
          rw [Array.getElem?_eq_getElem hlt]
          exact congrArg some this
        simp only [yielded, ht, Option.bind_some, hget]
        cases b' <;> cases want <;> rfl
      · rename_i vs hb'
        cases hw
        rw [hb'] at hv
        obtain ⟨us, he, _⟩ := hv.tup_inv
        have : yielded ops a.tmps j = none := by
          simp only [yielded, ht, Option.bind_some]
          cases hg2 : a.tmps[t]? with
          | none => rfl
          | some u =>
            have : a.tmps.getD t undef = u := by
              obtain ⟨hlt, e⟩ := Array.getElem?_eq_some_iff.1 hg2
              simp [Array.getD, hlt, e]
            rw [he] at this
            subst this
            rfl
        rw [this]
        rfl
      · cases hw

section
variable {P : Program} {E : Env} (hT : TTok P E.tt)
include hT

/-- An operation that is no call, run. -/
theorem wp_plain {C : Ctx} {dn dn' : Nat → Prop} {S : SM} {ι : NM} {st : St} {a : Act} {w : World} (h : R C dn S ι st a w) {i : Nat} (hi : ¬ dn i) (hi' : dn' i) (hdn : ∀ j, dn j → dn' j) {o : Oper} (hd : dstOk C.n o.dst = true) {v : AV} {ch : Ch}
    (he : evalOp E.tt o.op (freshOf o i st.clk) (get st.tm) st.hp = some (v, ch)) {K : Act → World → Prop} {Q : Exit → Act → World → Prop}
    (hK : ∀ S' ι' a' w', R C dn' S' ι' (st.app o v ch) a' w' → K a' w') : o.wp P a w K Q := by
  obtain ⟨nx, val, S', ι', w', h1, h2, h3, h4⟩ := evalOp_ok hT h.hr (h.fresh hi _) h.eval he
  unfold Oper.wp
  rw [h1]
  rcases h2 with rfl | ⟨rfl, rfl⟩
  · exact hK _ _ _ _ (h.step hi' hdn hd h3 h4)
  · exact hK _ _ _ _ (h.step hi' hdn hd h3 h4)

end
end Go.Ab
