/- THE ABSTRACT MACHINE, 23: loops by an invariant with a parameter that gets less. Conditions: none. -/
import Derived.Test.YthbbollhojdjdaaAbSub
namespace Go.Ab

/-- Behind a round. -/
def LoopK {α : Type} (I : α → St → Prop) (μ : α → Nat) (m : Nat) (Q : Exit → St → Prop) : Exit → St → Prop := fun e st' => match e with
  | .normal => ∃ a, I a st' ∧ μ a < m
  | e => Q e st'

section
variable {α : Type} (I : α → St → Prop) (μ : α → Nat) (m : Nat) (Q : Exit → St → Prop) (st : St)
@[go_sem] theorem LoopK_normal : LoopK I μ m Q .normal st = ∃ a, I a st ∧ μ a < m := (rfl)
@[go_sem] theorem LoopK_exit (id : Nat) : LoopK I μ m Q (.exit id) st = Q (.exit id) st := (rfl)
@[go_sem] theorem LoopK_ret : LoopK I μ m Q .ret st = Q .ret st := (rfl)
end

theorem least {α : Type} (p : α → Prop) (μ : α → Nat) : ∀ (n : Nat) (a : α), p a → μ a ≤ n → ∃ a, p a ∧ ∀ b, p b → μ a ≤ μ b
  | 0, a, h, hn => ⟨a, h, fun b _ => by omega⟩
  | n + 1, a, h, hn => by
    by_cases hb : ∃ b, p b ∧ μ b < μ a
    · obtain ⟨b, h1, h2⟩ := hb
      exact least p μ n b h1 (by omega)
    · exact ⟨a, h, fun b hp => by
        have : ¬ μ b < μ a := fun hlt => hb ⟨b, hp, hlt⟩
        omega⟩

open Classical in
noncomputable def muOf {α : Type} (I : α → St → Prop) (μ : α → Nat) (st : St) : Nat :=
  if h : ∃ a, I a st ∧ ∀ b, I b st → μ a ≤ μ b then μ (Classical.choose h) else 0

theorem muOf_spec {α : Type} {I : α → St → Prop} {μ : α → Nat} {st : St} {a : α} (h : I a st) : ∃ b, I b st ∧ μ b = muOf I μ st ∧ muOf I μ st ≤ μ a := by
  have hex := least (fun a => I a st) μ (μ a) a h (Nat.le_refl _)
  unfold muOf
  rw [dif_pos hex]
  have := Classical.choose_spec hex
  exact ⟨_, this.1, rfl, this.2 a h⟩

section
variable {P : Program} {E : Env}

theorem WOp_mono {i : Nat} {o : Oper} {st : St} {Q Q' : AV → Ch → Prop} (hq : ∀ v ch, Q v ch → Q' v ch) (h : WOp P E i o st Q) : WOp P E i o st Q' := by
  unfold WOp at *
  split
  · rename_i f args tys ho
    simp only [ho] at h
    unfold WCall at *
    split
    · rename_i fid hf
      simp only [hf] at h
      split
      · rename_i pr hpr
        simp only [hpr] at h
        exact ⟨h.1, CallsA.mono h.2 fun rs objs' ex => hq _ _⟩
      · rename_i hpr
        simp only [hpr] at h
    · rename_i hf
      split at h
      · rename_i fid hf2
        exact absurd hf2 (hf fid)
      · exact h
  · rename_i hno
    split at h
    · rename_i f args tys ho
      exact absurd ho (hno f args tys)
    · split
      · rename_i v ch he
        simp only [he] at h
        exact hq _ _ h
      · rename_i he
        simp only [he] at h

theorem WOpD_mono {i : Nat} {o : Oper} {st : St} {Q Q' : AV → Ch → Prop} (hq : ∀ v ch, Q v ch → Q' v ch) (h : WOpD P E i o st Q) : WOpD P E i o st Q' := by
  unfold WOpD at *
  split
  · rename_i f args tys ho
    simp only [ho] at h
    unfold WCallD at *
    split
    · rename_i fid hf
      simp only [hf] at h
      split
      · rename_i pr hpr
        simp only [hpr] at h
        obtain ⟨h1, rs, objs', ex, h2, h3⟩ := h
        exact ⟨h1, rs, objs', ex, h2, hq _ _ h3⟩
      · rename_i hpr
        simp only [hpr] at h
    · rename_i hf
      split at h
      · rename_i fid hf2
        exact absurd hf2 (hf fid)
      · exact h
  · rename_i hno
    split at h
    · rename_i f args tys ho
      exact absurd ho (hno f args tys)
    · split
      · rename_i v ch he
        simp only [he] at h
        exact hq _ _ h
      · rename_i he
        simp only [he] at h

theorem WOps_mono {ops : Array Oper} {Q Q' : St → Prop} (hq : ∀ st, Q st → Q' st) : ∀ (l : List Oper) (i : Nat) (st : St), WOps P E ops i l st Q → WOps P E ops i l st Q'
  | [], _, st, h => hq st h
  | o :: rest, i, st, h => by
    simp only [WOps] at *
    split at h
    · rename_i hw
      exact WOp_mono (fun v ch hh => WOps_mono hq rest _ _ hh) h
    · exact WOps_mono hq rest _ _ h
    · exact h

theorem WOpsD_mono {ops : Array Oper} {Q Q' : St → List Rec → Prop} (hq : ∀ st acc, Q st acc → Q' st acc) : ∀ (l : List Oper) (i : Nat) (st : St) (acc : List Rec), WOpsD P E ops i l st acc Q → WOpsD P E ops i l st acc Q'
  | [], _, st, acc, h => hq st acc h
  | o :: rest, i, st, acc, h => by
    simp only [WOpsD] at *
    split at h
    · exact WOpD_mono (fun v ch hh => WOpsD_mono hq rest _ _ _ hh) h
    · exact WOpsD_mono hq rest _ _ _ h
    · exact h

theorem W_mono : ∀ (c : Code) {st : St} {Q Q' : Exit → St → Prop}, (∀ e st, Q e st → Q' e st) → W P E c st Q → W P E c st Q'
  | .skip, _, _, _, hq, h => hq _ _ h
  | .label _, _, _, _, hq, h => hq _ _ h
  | .region _ _ false, _, _, _, hq, h => WOps_mono (fun _ => hq _ _) _ _ _ h
  | .region _ _ true, _, _, _, hq, h => WOpsD_mono (fun _ _ hh => ⟨hh.1, hq _ _ hh.2⟩) _ _ _ _ h
  | .seq a b, _, _, _, hq, h => W_mono a (fun e st hh => by
      cases e with
      | normal => exact W_mono b hq hh
      | _ => exact hq _ _ hh) h
  | .cond c a b, st, _, _, hq, h => by
    simp only [W] at *
    split
    · rename_i t ht
      simp only [ht] at h
      exact ⟨fun e => W_mono a hq (h.1 e), fun e => W_mono b hq (h.2 e)⟩
    · rename_i hn
      split at h
      · rename_i t ht
        exact absurd ht (hn t)
      · exact h
  | .block id c, _, _, _, hq, h => W_mono c (fun e st hh => by
      cases e with
      | exit id' =>
        simp only at hh ⊢
        split
        · rename_i e; rw [if_pos e] at hh; exact hq _ _ hh
        · rename_i e; rw [if_neg e] at hh; exact hq _ _ hh
      | _ => exact hq _ _ hh) h
  | .loop c, _, _, _, hq, ⟨I, μ, h1, h2⟩ => ⟨I, μ, h1, fun st hi => W_mono c (fun e st hh => by
      cases e with
      | normal => exact hh
      | _ => exact hq _ _ hh) (h2 st hi)⟩
  | .scope c, _, _, _, hq, h => W_mono c (fun e st hh => by
      cases e with
      | goto _ => exact hh
      | _ => exact hq _ _ hh) h
  | .exit _, _, _, _, hq, h => hq _ _ h
  | .ret, _, _, _, hq, h => hq _ _ h
  | .goto _, _, _, _, _, h => h.elim
  | .refuse _, _, _, _, _, h => h.elim
  | .rangeFunc .., _, _, _, _, h => h.elim
end

theorem W_loop {P : Program} {E : Env} {c : Code} {st : St} {Q : Exit → St → Prop} {α : Type} (I : α → St → Prop) (μ : α → Nat) (a0 : α) (h0 : I a0 st)
    (h : ∀ a tm hp clk, I a ⟨tm, hp, clk⟩ → W P E c ⟨tm, hp, clk⟩ (LoopK I μ (μ a) Q)) : W P E (.loop c) st Q := by
  refine ⟨fun st => ∃ a, I a st, muOf I μ, ⟨a0, h0⟩, ?_⟩
  rintro ⟨tm, hp, clk⟩ ⟨a, ha⟩
  obtain ⟨b, hb, e, _⟩ := muOf_spec (μ := μ) ha
  have := h b tm hp clk hb
  rw [e] at this
  have eq : LoopK I μ (muOf I μ ⟨tm, hp, clk⟩) Q = fun e st' => match e with
      | .normal => ∃ a, I a st' ∧ μ a < muOf I μ ⟨tm, hp, clk⟩
      | e => Q e st' := rfl
  have mono : ∀ (e : Exit) (st' : St), LoopK I μ (muOf I μ ⟨tm, hp, clk⟩) Q e st' → (fun e st' => match e with
      | .normal => (∃ a, I a st') ∧ muOf I μ st' < muOf I μ ⟨tm, hp, clk⟩
      | e => Q e st') e st' := by
    intro e st' hk
    cases e with
    | normal =>
      obtain ⟨a', h1, h2⟩ := hk
      obtain ⟨_, _, _, h3⟩ := muOf_spec (μ := μ) h1
      exact ⟨⟨a', h1⟩, Nat.lt_of_le_of_lt h3 h2⟩
    | _ => exact hk
  exact W_mono c mono this

/-- A place where what is known is said anew. -/
def CutK (J : St → Prop) (Q : Exit → St → Prop) : Exit → St → Prop := fun e st' => match e with
  | .normal => J st'
  | e => Q e st'

section
variable (J : St → Prop) (Q : Exit → St → Prop) (st : St)
@[go_sem] theorem CutK_normal : CutK J Q .normal st = J st := (rfl)
@[go_sem] theorem CutK_exit (id : Nat) : CutK J Q (.exit id) st = Q (.exit id) st := (rfl)
@[go_sem] theorem CutK_ret : CutK J Q .ret st = Q .ret st := (rfl)
end

theorem W_cut {P : Program} {E : Env} {c : Code} {st : St} {Q : Exit → St → Prop} (J : St → Prop) (h1 : W P E c st (CutK J Q)) (h2 : ∀ tm hp clk, J ⟨tm, hp, clk⟩ → Q .normal ⟨tm, hp, clk⟩) : W P E c st Q :=
  W_mono c (fun e st' h => by
    cases e with
    | normal => obtain ⟨tm, hp, clk⟩ := st'; exact h2 tm hp clk h
    | _ => exact h) h1
end Go.Ab
