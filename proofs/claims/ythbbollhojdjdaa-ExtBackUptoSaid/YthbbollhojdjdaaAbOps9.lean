/- THE ABSTRACT MACHINE, 11: every operation but calls of functions. Conditions: the table of types is the program's. -/
import Derived.Test.YthbbollhojdjdaaAbOps8
namespace Go.Ab
set_option linter.unusedSimpArgs false

/-- What an operation does. -/
def Does (P : Program) (fresh : Nm) (S : SM) (ι : NM) (hp : HP) (w : World) (x : Sem Next) (v : AV) (ch : Ch) : Prop :=
  ∃ nx val S' ι' w', x.run P w = .ok nx w' ∧ (nx = .value val ∨ nx = .skip ∧ val = undef) ∧ VT S' ι' v val ∧ Mv fresh S ι hp w S' ι' (chg hp ch) w'

theorem ofV_ok (S : SM) (ι : NM) (v : Value) : VT S ι (ofV v) v := by
  unfold ofV
  split
  · exact .v (.bool _)
  · exact .v (.int _ _)
  · rename_i s
    have := V.str (S := S) s.data.toList
    exact .v this
  · exact .v (.slnil _ _)
  · exact .v .nilp
  · exact .v .nilif
  · exact .v .nilfn
  · exact .v (.fn _)
  · exact .tup [] [] rfl (fun i hi => by simp at hi)
  · exact .undef _

theorem toList_two {α : Type} {xs : Array α} {a b : α} (h : xs.toList = [a, b]) : xs = #[a, b] := by
  apply Array.ext'; simpa using h
theorem toList_one {α : Type} {xs : Array α} {a : α} (h : xs.toList = [a]) : xs = #[a] := by
  apply Array.ext'; simpa using h

section
variable {P : Program} {tt : TypeId → Option TI} (hT : TTok P tt)
include hT

theorem builtinA_ok {fresh : Nm} {S : SM} {ι : NM} {hp : HP} {w : World} (hr : HR S ι hp w) (hf : ι fresh = none) {b : Builtin} {ts : Array TypeId} {ty : TypeId} {cs : Array Bool} {args : Array Value} {xs : List AV} {v : AV} {ch : Ch}
    (h : builtinA tt b ts.toList fresh xs hp = some (v, ch)) (hl : xs.length = args.size) (hx : ∀ i (h1 : i < xs.length) (h2 : i < args.size), VT S ι xs[i] args[i]) :
    ∃ val S' ι' w', (builtin b ts ty cs args).run P w = .ok (.value val) w' ∧ VT S' ι' v val ∧ Mv fresh S ι hp w S' ι' (chg hp ch) w' := by
  obtain ⟨args⟩ := args
  simp only [List.size_toArray] at hl
  have hx' : ∀ i (h1 : i < xs.length) (h2 : i < args.length), VT S ι xs[i] args[i] := fun i h1 h2 => hx i h1 (by simpa using h2)
  unfold builtinA at h
  split at h
  · rename_i t x ht
    have := toList_one ht; subst this
    rw [Option.map_eq_some_iff] at h
    obtain ⟨r, hr', he⟩ := h
    cases he
    match args, hl, hx' with
    | [u], _, hx' =>
      obtain ⟨val, h1, h2⟩ := lenA_ok (ty := ty) hT hr' (show VT S ι x u from hx' 0 (by simp) (by simp)) w
      exact ⟨val, S, ι, w, by simp only [builtin, Sem.run_bind]; show ((Builtin.len_ #[t] ty #[u]).run P w).andThen _ = _; rw [h1]; rfl, h2, Mv.refl hr⟩
  · rename_i t tx s x ht
    have := toList_two ht; subst this
    match args, hl, hx' with
    | [u, u'], _, hx' =>
      obtain ⟨val, ι', w', h1, h2, h3⟩ := appendA_ok (ty := ty) hT hr hf h (show VT S ι s u from hx' 0 (by simp) (by simp)) (show VT S ι x u' from hx' 1 (by simp) (by simp))
      exact ⟨val, S, ι', w', by simp only [builtin, Sem.run_bind]; show ((Builtin.append_ #[t, tx] ty #[u, u']).run P w).andThen _ = _; rw [h1]; rfl, h2, h3⟩
  · rename_i t tx s x ht
    have := toList_two ht; subst this
    match args, hl, hx' with
    | [u, u'], _, hx' =>
      obtain ⟨val, w', h1, h2, h3⟩ := copyA_ok (fresh := fresh) (ty := ty) hT hr h (show VT S ι s u from hx' 0 (by simp) (by simp)) (show VT S ι x u' from hx' 1 (by simp) (by simp))
      exact ⟨val, S, ι, w', by simp only [builtin, Sem.run_bind]; show ((Builtin.copy_ #[t, tx] ty #[u, u']).run P w).andThen _ = _; rw [h1]; rfl, h2, h3⟩
  · rename_i k x l
    rw [Option.map_eq_some_iff] at h
    obtain ⟨r, hr', he⟩ := h
    cases he
    match args, hl, hx' with
    | u :: us, hl, hx' =>
      have h0 := (hx' 0 (by simp) (by simp)).int_inv
      simp only [List.getElem_cons_zero] at h0
      subst h0
      obtain ⟨val, h1, h2⟩ := fold_max (P := P) (S := S) (ι := ι) w l x _ us hr' (by simpa using hl) (fun i h1 h2 => hx' (i + 1) (by simpa using h1) (by simpa using h2))
      exact ⟨val, S, ι, w, by simp only [builtin, Builtin.max_, Sem.run_bind, h1, Result.andThen_ok, Sem.run_pure], .v h2, Mv.refl hr⟩
  · rename_i k x l
    rw [Option.map_eq_some_iff] at h
    obtain ⟨r, hr', he⟩ := h
    cases he
    match args, hl, hx' with
    | u :: us, hl, hx' =>
      have h0 := (hx' 0 (by simp) (by simp)).int_inv
      simp only [List.getElem_cons_zero] at h0
      subst h0
      obtain ⟨val, h1, h2⟩ := fold_min (P := P) (S := S) (ι := ι) w l x _ us hr' (by simpa using hl) (fun i h1 h2 => hx' (i + 1) (by simpa using h1) (by simpa using h2))
      exact ⟨val, S, ι, w, by simp only [builtin, Builtin.min_, Sem.run_bind, h1, Result.andThen_ok, Sem.run_pure], .v h2, Mv.refl hr⟩
  · cases h

theorem evalOp_ok {fresh : Nm} {S : SM} {ι : NM} {hp : HP} {w : World} (hr : HR S ι hp w) (hf : ι fresh = none) {o : Oper} {ρ : Operand → Value} {g : Operand → AV} (hg : ∀ x, VT S ι (g x) (ρ x)) {v : AV} {ch : Ch}
    (h : evalOp tt o.op fresh g hp = some (v, ch)) : Does P fresh S ι hp w (execOp ρ o) v ch := by
  have pure1 : ∀ {x : Sem Value} {r : AV}, (∃ val, x.run P w = .ok val w ∧ VT S ι r val) → Does P fresh S ι hp w (do pure (.value (← x))) r [] := by
    rintro x r ⟨val, h1, h2⟩
    exact ⟨.value val, val, S, ι, w, by simp [h1], .inl rfl, h2, Mv.refl hr⟩
  have parts_ok : ∀ (parts : Array (Nat × Operand)), (parts.toList.map fun ((i, x) : Nat × Operand) => (i, g x)).length = (parts.map fun ((i, x) : Nat × Operand) => (i, ρ x)).size ∧
      ∀ (i : Nat) (h1 : i < (parts.toList.map fun ((i, x) : Nat × Operand) => (i, g x)).length) (h2 : i < (parts.map fun ((i, x) : Nat × Operand) => (i, ρ x)).size),
        ((parts.toList.map fun ((i, x) : Nat × Operand) => (i, g x))[i]'h1).1 = ((parts.map fun ((i, x) : Nat × Operand) => (i, ρ x))[i]'h2).1 ∧ VT S ι ((parts.toList.map fun ((i, x) : Nat × Operand) => (i, g x))[i]'h1).2 ((parts.map fun ((i, x) : Nat × Operand) => (i, ρ x))[i]'h2).2 := by
    intro parts
    refine ⟨by simp, fun i h1 h2 => ?_⟩
    simp only [List.getElem_map, Array.getElem_toList, Array.getElem_map, true_and]
    exact hg _
  have opt_ok : ∀ (x : Option Operand), OptVT S ι (x.map g) (x.map ρ) := by
    intro x
    cases x with
    | none => exact trivial
    | some x => exact hg x
  obtain ⟨dst, op, type, pos, after, guard⟩ := o
  simp only at h
  unfold evalOp at h
  split at h
  · cases h; exact ⟨_, _, S, ι, w, rfl, .inl rfl, hg _, Mv.refl hr⟩
  · cases h; exact ⟨_, _, S, ι, w, rfl, .inl rfl, hg _, Mv.refl hr⟩
  · rename_i c a b
    split at h
    · rename_i t ht
      have hc := hg c
      rw [ht] at hc
      have hcv := hc.bool_inv
      have hrun : (execOp ρ ⟨dst, .pick c a b, type, pos, after, guard⟩).run P w = .ok (.value (if t then ρ a else ρ b)) w := by
        simp only [execOp, hcv, asBool, Sem.run_bind, Sem.run_pure, Result.andThen_ok]
      refine ⟨_, _, S, ι, w, hrun, .inl rfl, ?_, ?_⟩
      · have ha := hg a
        have hb := hg b
        split at h
        · rename_i x y hx hy
          cases h
          rw [hx] at ha
          rw [hy] at hb
          cases t
          · exact hb
          · exact ha
        · cases h
          cases t <;> assumption
      · split at h <;> (cases h; exact Mv.refl hr)
    · cases h
  · rename_i t
    obtain ⟨val, ι', w', h1, h2, h3⟩ := allocA_ok hT hr hf h
    exact ⟨.value val, val, S, ι', w', by simp only [execOp, Sem.run_bind, h1, Result.andThen_ok, Sem.run_pure], .inl rfl, h2, h3⟩
  · rename_i t x
    obtain ⟨val, ι', w', h1, h2, h3⟩ := boxA_ok (P := P) hr hf t h (hg x)
    exact ⟨.value val, val, S, ι', w', by simp only [execOp, Sem.run_bind, h1, Result.andThen_ok, Sem.run_pure], .inl rfl, h2, h3⟩
  · rename_i t parts
    rw [Option.map_eq_some_iff] at h
    obtain ⟨r, hr', he⟩ := h
    cases he
    exact pure1 (buildA_ok hT hr' (parts_ok parts).1 (parts_ok parts).2)
  · rename_i t n parts
    obtain ⟨val, S', w', h1, h2, h3⟩ := buildSliceA_ok (fresh := fresh) hT hr h (parts_ok parts).1 (parts_ok parts).2
    exact ⟨.value val, val, S', ι, w', by simp only [execOp, Sem.run_bind, h1, Result.andThen_ok, Sem.run_pure], .inl rfl, h2, h3⟩
  · rename_i t p
    rw [Option.map_eq_some_iff] at h
    obtain ⟨r, hr', he⟩ := h
    cases he
    exact pure1 (loadA_ok hT hr hr' (hg p))
  · rename_i t p x
    obtain ⟨w', h1, rfl, h3⟩ := storeA_ok (fresh := fresh) hT hr h (hg p) (hg x)
    exact ⟨.skip, undef, S, ι, w', by simp only [execOp, Sem.run_bind, h1, Result.andThen_ok, Sem.run_pure], .inr ⟨rfl, rfl⟩, .tup [] [] rfl (fun i hi => by simp at hi), h3⟩
  · rename_i x
    split at h
    · rename_i nm off hx
      cases h
      have := hg x
      rw [hx] at this
      obtain ⟨l, hl, he⟩ := this.ref_inv
      exact ⟨.value (ρ x), ρ x, S, ι, w, by simp only [execOp, he]; rfl, .inl rfl, this, Mv.refl hr⟩
    · rename_i cs hx
      cases h
      have := hg x
      rw [hx] at this
      obtain ⟨b, o, he, _⟩ := VT.pc_inv hr this
      exact ⟨.value (ρ x), ρ x, S, ι, w, by simp only [execOp, he]; rfl, .inl rfl, this, Mv.refl hr⟩
    · cases h
  · rename_i op t x y _
    rw [Option.map_eq_some_iff] at h
    obtain ⟨r, hr', he⟩ := h
    cases he
    exact pure1 (binA_ok hT hr' (hg x) (hg y) x y w)
  · rename_i op _ x
    rw [Option.map_eq_some_iff] at h
    obtain ⟨r, hr', he⟩ := h
    cases he
    obtain ⟨val, h1, h2⟩ := unA_ok (P := P) hr' (hg x) w
    exact pure1 ⟨val, h1, .v h2⟩
  · rename_i src dst' x
    rw [Option.map_eq_some_iff] at h
    obtain ⟨r, hr', he⟩ := h
    cases he
    obtain ⟨val, S', w', h1, h2, h3⟩ := convA_ok (fresh := fresh) hT hr hr' (hg x)
    exact ⟨.value val, val, S', ι, w', by simp only [execOp, Sem.run_bind, h1, Result.andThen_ok, Sem.run_pure], .inl rfl, h2, h3⟩
  · rename_i t l c
    obtain ⟨val, ι', w', h1, h2, h3⟩ := makeA_ok hT hr hf h (hg l) (hg c)
    exact ⟨.value val, val, S, ι', w', by simp only [execOp, Sem.run_bind, h1, Result.andThen_ok, Sem.run_pure], .inl rfl, h2, h3⟩
  · rename_i t x lo hi mx
    obtain ⟨val, S', h1, h2, h3⟩ := sliceA_ok (fresh := fresh) hT hr h (hg x) (opt_ok lo) (opt_ok hi) (opt_ok mx)
    exact ⟨.value val, val, S', ι, w, by simp only [execOp, Sem.run_bind, h1, Result.andThen_ok, Sem.run_pure], .inl rfl, h2, h3⟩
  · rename_i t x f
    rw [Option.map_eq_some_iff] at h
    obtain ⟨r, hr', he⟩ := h
    cases he
    exact pure1 (fieldAddrA_ok hT w hr' (hg x))
  · rename_i t x f
    rw [Option.map_eq_some_iff] at h
    obtain ⟨r, hr', he⟩ := h
    cases he
    exact pure1 (fieldA_ok hT hr' (hg x) w)
  · rename_i t x ix
    rw [Option.map_eq_some_iff] at h
    obtain ⟨r, hr', he⟩ := h
    cases he
    exact pure1 (indexAddrA_ok hT w hr' (hg x) (hg ix))
  · rename_i t x ix
    rw [Option.map_eq_some_iff] at h
    obtain ⟨r, hr', he⟩ := h
    cases he
    exact pure1 (indexA_ok hT w hr' (hg x) (hg ix))
  · rename_i t ix
    split at h
    · rename_i vs ht
      rw [Option.map_eq_some_iff] at h
      obtain ⟨r, hr', he⟩ := h
      cases he
      have := hg t
      rw [ht] at this
      obtain ⟨us, he, hl, hv⟩ := this.tup_inv
      obtain ⟨hlt, hget⟩ := List.getElem?_eq_some_iff.1 hr'
      refine pure1 ⟨us[ix]'(by omega), ?_, ?_⟩
      · have : us[ix]? = some (us[ix]'(by omega)) := List.getElem?_eq_getElem (by omega)
        simp [Instr.extract, he, this]
      · rw [← hget]; exact hv ix hlt (by omega)
    · cases h
  · rename_i b args tys
    have hx := builtinA_ok (ty := type) (cs := args.map fun | .const _ => true | _ => false) (args := args.map ρ) hT hr hf h (by simp) (fun i h1 h2 => by simp only [List.getElem_map, Array.getElem_toList, Array.getElem_map]; exact hg _)
    obtain ⟨val, S', ι', w', h1, h2, h3⟩ := hx
    refine ⟨.value val, val, S', ι', w', ?_, .inl rfl, h2, h3⟩
    simp only [execOp, resolve, Sem.run_bind, Sem.run_pure, Result.andThen_ok, invoke]
    exact h1
  · cases h

end
end Go.Ab
