/- THE ABSTRACT MACHINE, 19: statements whose order is open: whatever order the edges allow, the outcome is the text's order's. Conditions: the table of types is the program's; the program's departures hold the mixed orders. -/
import Derived.Test.YthbbollhojdjdaaAbDraw
import Derived.Orders
namespace Go.Ab
set_option linter.unusedSimpArgs false

/-! ### what is ahead of what -/

def anc (ops : Array Oper) (j k : Nat) : Prop := ((Region.before ops).getD k 0).testBit j = true

def BInv (l : List Oper) (acc : Array Nat) : Prop := acc.size ≤ l.length ∧ ∀ i, i < acc.size → ∀ j, (acc.getD i 0).testBit j = true →
  ∃ o, l[i]? = some o ∧ ∃ e, e ∈ o.after ∧ Region.binds .any e = true ∧ (e.on = j ∨ (acc.getD e.on 0).testBit j = true)

theorem fold_bits (look : Nat → Nat) (j : Nat) : ∀ (l : List Edge) (s : Nat), (l.foldl (fun s e => if Region.binds .any e then s ||| 2 ^ e.on ||| look e.on else s) s).testBit j = true →
    s.testBit j = true ∨ ∃ e, e ∈ l ∧ Region.binds .any e = true ∧ (e.on = j ∨ (look e.on).testBit j = true)
  | [], s, h => .inl h
  | e :: l, s, h => by
    rw [List.foldl_cons] at h
    rcases fold_bits look j l _ h with h1 | ⟨e', h1, h2, h3⟩
    · by_cases hb : Region.binds .any e = true
      · simp only [hb, if_true, Nat.testBit_or, Bool.or_eq_true, Nat.testBit_two_pow, decide_eq_true_eq] at h1
        rcases h1 with (h1 | h1) | h1
        · exact .inl h1
        · exact .inr ⟨e, by simp, hb, .inl h1⟩
        · exact .inr ⟨e, by simp, hb, .inr h1⟩
      · simp only [hb] at h1
        exact .inl h1
    · exact .inr ⟨e', by simp [h1], h2, h3⟩

theorem before_fold : ∀ (rest pre : List Oper) (acc : Array Nat), acc.size = pre.length → BInv (pre ++ rest) acc →
    BInv (pre ++ rest) (rest.foldl (fun acc o => acc.push (o.after.foldl (fun s e => if Region.binds .any e then s ||| 2 ^ e.on ||| acc.getD e.on 0 else s) 0)) acc) 
  | [], _, _, _, h => h
  | o :: rest, pre, acc, hs, h => by
    rw [List.foldl_cons]
    have e : pre ++ o :: rest = (pre ++ [o]) ++ rest := by simp
    rw [e]
    refine before_fold rest (pre ++ [o]) _ (by simp [hs]) ?_
    rw [← e]
    refine ⟨by simp [hs], fun i hi j hj => ?_⟩
    have mono : ∀ k, (acc.getD k 0).testBit j = true → ∀ x, ((acc.push x).getD k 0).testBit j = true := by
      intro k hk x
      simp only [Array.getD_eq_getD_getElem?] at hk ⊢
      cases hg : acc[k]? with
      | none => simp [hg] at hk
      | some v =>
        have : k < acc.size := (Array.getElem?_eq_some_iff.1 hg).1
        rw [Array.getElem?_push_lt this]
        rw [hg] at hk
        obtain ⟨_, e⟩ := Array.getElem?_eq_some_iff.1 hg
        simpa [e] using hk
    rcases Nat.lt_or_ge i acc.size with hlt | hge
    · have h1 : (acc.getD i 0).testBit j = true := by
        simp only [Array.getD_eq_getD_getElem?, Array.getElem?_push_lt hlt] at hj
        simpa [Array.getD, hlt] using hj
      obtain ⟨o', q1, ed, q2, q3, q4⟩ := h.2 i hlt j h1
      exact ⟨o', q1, ed, q2, q3, q4.imp id fun q => mono _ q _⟩
    · have hi' : i = acc.size := by simp at hi; omega
      subst hi'
      simp only [Array.getD_eq_getD_getElem?, Array.getElem?_push_size, Option.getD_some] at hj
      rw [← Array.foldl_toList] at hj
      rcases fold_bits (fun k => acc[k]?.getD 0) j _ _ hj with q | ⟨ed, q2, q3, q4⟩
      · simp at q
      · refine ⟨o, by rw [hs]; simp, ed, by simpa using q2, q3, q4.imp id fun q => mono _ (by simpa [Array.getD_eq_getD_getElem?] using q) _⟩

theorem anc_spec {ops : Array Oper} {j i : Nat} (h : anc ops j i) : ∃ o, ops[i]? = some o ∧ ∃ e, e ∈ o.after ∧ Region.binds .any e = true ∧ (e.on = j ∨ anc ops j e.on) := by
  have hb := before_fold ops.toList [] #[] rfl ⟨by simp, fun i hi => by simp at hi⟩
  have e : Region.before ops = ops.toList.foldl (fun acc o => acc.push (o.after.foldl (fun s e => if Region.binds .any e then s ||| 2 ^ e.on ||| acc.getD e.on 0 else s) 0)) #[] := by
    unfold Region.before
    rw [← Array.foldl_toList]
  rw [← e] at hb
  unfold anc at h
  have hlt : i < (Region.before ops).size := by
    rcases Nat.lt_or_ge i (Region.before ops).size with q | q
    · exact q
    · simp [Array.getD, Nat.not_lt.2 q] at h
  obtain ⟨o, q1, ed, q2, q3, q4⟩ := hb.2 i hlt j h
  exact ⟨o, by simpa using q1, ed, q2, q3, q4⟩

theorem anc_lt {ops : Array Oper} (hb : ∀ (i : Nat) (o : Oper), ops[i]? = some o → ∀ e, e ∈ o.after → Region.binds .any e = true → e.on < i) : ∀ (i : Nat) {j : Nat}, anc ops j i → j < i := by
  intro i
  induction i using Nat.strongRecOn with
  | ind i ih =>
    intro j h
    obtain ⟨o, q1, ed, q2, q3, q4⟩ := anc_spec h
    have := hb i o q1 ed q2 q3
    rcases q4 with q | q
    · omega
    · have := ih _ this q; omega

/-! ### runs of deeds -/

def apl (ops : Array Oper) (de : Nat → AV × Ch) (l : List Nat) (st : St) : St := l.foldl (fun st k => st.app (ops.getD k default) (de k).1 (de k).2) st

theorem apl_append {ops : Array Oper} {de : Nat → AV × Ch} {l l' : List Nat} {st : St} : apl ops de (l ++ l') st = apl ops de l' (apl ops de l st) := by simp [apl]

theorem apl_clk {ops : Array Oper} {de : Nat → AV × Ch} : ∀ (l : List Nat) (st : St), (apl ops de l st).clk = st.clk
  | [], _ => rfl
  | k :: l, st => by
    have := apl_clk (ops := ops) (de := de) l (st.app (ops.getD k default) (de k).1 (de k).2)
    simpa [apl, St.app] using this

def wT (ops : Array Oper) (t : Nat) (k : Nat) : Bool := decide ((ops.getD k default).dst = some t)
def wH (de : Nat → AV × Ch) (nm : Nm) (k : Nat) : Bool := decide (nm ∈ (de k).2.map (·.1))

theorem put_other {tm : Nat → AV} {d : Option Tmp} {v : AV} {t : Nat} (h : d ≠ some t) : put tm d v t = tm t := by
  cases d with
  | none => rfl
  | some d =>
    simp only [put, upd]
    split
    · subst_vars; simp at h
    · rfl

theorem put_same {tm : Nat → AV} {d : Option Tmp} {v : AV} {t : Nat} (h : d = some t) : put tm d v t = v := by
  subst h; simp [put, upd]

theorem chg_other {nm : Nm} : ∀ {ch : Ch} {hp : HP}, nm ∉ ch.map (·.1) → chg hp ch nm = hp nm
  | [], _, _ => rfl
  | (m, o) :: l, hp, h => by
    simp only [List.map_cons, List.mem_cons, not_or] at h
    simp only [chg]
    rw [chg_other h.2]
    simp [updH, h.1]

theorem chg_same {nm : Nm} : ∀ {ch : Ch} {hp hp' : HP}, nm ∈ ch.map (·.1) → chg hp ch nm = chg hp' ch nm
  | [], _, _, h => by simp at h
  | (m, o) :: l, hp, hp', h => by
    simp only [chg]
    by_cases hl : nm ∈ l.map (·.1)
    · exact chg_same hl
    · rw [chg_other hl, chg_other hl]
      simp only [List.map_cons, List.mem_cons] at h
      rcases h with h | h
      · subst h; simp [updH]
      · exact absurd h hl

theorem apl_tm {ops : Array Oper} {de : Nat → AV × Ch} {t : Nat} : ∀ (l : List Nat) {st st' : St}, st.tm t = st'.tm t → (apl ops de l st).tm t = (apl ops de (l.filter (wT ops t)) st').tm t
  | [], _, _, h => h
  | k :: l, st, st', h => by
    by_cases hk : (ops.getD k default).dst = some t
    · have : wT ops t k = true := by simp only [wT, decide_eq_true_eq]; exact hk
      rw [List.filter_cons_of_pos this]
      exact apl_tm l (st := st.app _ _ _) (st' := st'.app _ _ _) (by simp only [St.app]; rw [put_same hk, put_same hk])
    · have : ¬ wT ops t k = true := by simp only [wT, decide_eq_true_eq]; exact hk
      rw [List.filter_cons_of_neg this]
      exact apl_tm l (st := st.app _ _ _) (by simp only [St.app]; rw [put_other hk]; exact h)

theorem apl_hp {ops : Array Oper} {de : Nat → AV × Ch} {nm : Nm} : ∀ (l : List Nat) {st st' : St}, st.hp nm = st'.hp nm → (apl ops de l st).hp nm = (apl ops de (l.filter (wH de nm)) st').hp nm
  | [], _, _, h => h
  | k :: l, st, st', h => by
    by_cases hk : nm ∈ (de k).2.map (·.1)
    · have : wH de nm k = true := by simp only [wH, decide_eq_true_eq]; exact hk
      rw [List.filter_cons_of_pos this]
      exact apl_hp l (st := st.app _ _ _) (st' := st'.app _ _ _) (by simp only [St.app]; exact chg_same hk)
    · have : ¬ wH de nm k = true := by simp only [wH, decide_eq_true_eq]; exact hk
      rw [List.filter_cons_of_neg this]
      exact apl_hp l (st := st.app _ _ _) (by simp only [St.app]; rw [chg_other hk]; exact h)

/-! ### lists in order -/

theorem sorted_ext : ∀ {l l' : List Nat}, l.Pairwise (· < ·) → l'.Pairwise (· < ·) → (∀ x, x ∈ l ↔ x ∈ l') → l = l'
  | [], [], _, _, _ => rfl
  | [], b :: l', _, _, h => by have := (h b).2 (by simp); simp at this
  | a :: l, [], _, _, h => by have := (h a).1 (by simp); simp at this
  | a :: l, b :: l', h1, h2, h => by
    rw [List.pairwise_cons] at h1 h2
    have hab : a = b := by
      have q1 := (h a).1 (by simp)
      have q2 := (h b).2 (by simp)
      simp only [List.mem_cons] at q1 q2
      rcases q1 with q1 | q1
      · exact q1
      · rcases q2 with q2 | q2
        · exact q2.symm
        · have := h1.1 b q2; have := h2.1 a q1; omega
    subst hab
    refine congrArg _ (sorted_ext h1.2 h2.2 fun x => ⟨fun hx => ?_, fun hx => ?_⟩)
    · have := (h x).1 (by simp [hx])
      simp only [List.mem_cons] at this
      rcases this with q | q
      · have := h1.1 x hx; omega
      · exact q
    · have := (h x).2 (by simp [hx])
      simp only [List.mem_cons] at this
      rcases this with q | q
      · have := h2.1 x hx; omega
      · exact q

/-- What has been done, in the order of its doing. -/
structure Done (ops : Array Oper) (L : List Nat) : Prop where
  nodup : L.Nodup
  lt : ∀ k ∈ L, k < ops.size
  down : ∀ k ∈ L, ∀ j, anc ops j k → j ∈ L
  order : L.Pairwise fun a b => ¬ anc ops b a

def ord (ops : Array Oper) (i j : Nat) : Prop := anc ops i j ∨ anc ops j i

section
variable {ops : Array Oper} (hb : ∀ (i : Nat) (o : Oper), ops[i]? = some o → ∀ e, e ∈ o.after → Region.binds .any e = true → e.on < i)
include hb

theorem Done.sorted {L : List Nat} (h : Done ops L) {p : Nat → Bool} (hp : ∀ j k, j < ops.size → k < ops.size → p j = true → p k = true → j ≠ k → ord ops j k) : (L.filter p).Pairwise (· < ·) := by
  have h1 : (L.filter p).Pairwise fun a b => ¬ anc ops b a := h.order.sublist List.filter_sublist
  have h2 : (L.filter p).Pairwise fun a b => a ≠ b := h.nodup.sublist List.filter_sublist
  refine (h1.and h2).imp_of_mem ?_
  intro a b ha hb' ⟨q1, q2⟩
  simp only [List.mem_filter] at ha hb'
  rcases hp a b (h.lt a ha.1) (h.lt b hb'.1) ha.2 hb'.2 q2 with q | q
  · exact anc_lt hb _ q
  · exact absurd q q1

theorem Done.same {L : List Nat} (h : Done ops L) {i : Nat} {p : Nat → Bool} (hp : ∀ j k, j < ops.size → k < ops.size → p j = true → p k = true → j ≠ k → ord ops j k)
    (hL : ∀ k ∈ L, p k = true → k < i) (hR : ∀ k, k < i → p k = true → k ∈ L) : L.filter p = (List.range i).filter p := by
  refine sorted_ext (h.sorted hb hp) (List.Pairwise.sublist List.filter_sublist List.pairwise_lt_range) fun x => ?_
  simp only [List.mem_filter, List.mem_range]
  exact ⟨fun ⟨a, b⟩ => ⟨hL x a b, b⟩, fun ⟨a, b⟩ => ⟨hR x a b, b⟩⟩

/-- What the i-th reads stands as the text's order has it. -/
theorem Done.reads {L : List Nat} (h : Done ops L) {i : Nat} (hi : i < ops.size) (hiL : i ∉ L) (hanc : ∀ j, anc ops j i → j ∈ L) {p : Nat → Bool} (hp : ∀ j k, j < ops.size → k < ops.size → p j = true → p k = true → j ≠ k → ord ops j k)
    (hpi : ∀ k, k < ops.size → p k = true → k ≠ i → ord ops i k) : L.filter p = (List.range i).filter p := by
  refine h.same hb hp (fun k hk hpk => ?_) (fun k hk hpk => ?_)
  · have hne : k ≠ i := fun e => hiL (e ▸ hk)
    rcases hpi k (h.lt k hk) hpk hne with q | q
    · exact absurd (h.down k hk _ q) hiL
    · exact anc_lt hb _ q
  · rcases hpi k (by omega) hpk (by omega) with q | q
    · have := anc_lt hb _ q; omega
    · exact hanc _ q

theorem Done.all {L : List Nat} (h : Done ops L) (hall : ∀ k, k < ops.size → k ∈ L) {p : Nat → Bool} (hp : ∀ j k, j < ops.size → k < ops.size → p j = true → p k = true → j ≠ k → ord ops j k) : L.filter p = (List.range ops.size).filter p :=
  h.same hb hp (fun k hk _ => h.lt k hk) (fun k hk _ => hall k hk)

omit hb in
theorem Done.step {L : List Nat} (h : Done ops L) {i : Nat} (hi : i < ops.size) (hiL : i ∉ L) (hanc : ∀ j, anc ops j i → j ∈ L) (hself : ∀ k ∈ L, ¬ anc ops i k) : Done ops (L ++ [i]) := by
  refine ⟨?_, ?_, ?_, ?_⟩
  · rw [List.nodup_append]
    refine ⟨h.nodup, by simp, ?_⟩
    intro a ha b hb' e
    simp only [List.mem_singleton] at hb'
    subst hb'; subst e
    exact hiL ha
  · intro k hk
    simp only [List.mem_append, List.mem_singleton] at hk
    rcases hk with hk | rfl
    · exact h.lt k hk
    · exact hi
  · intro k hk j hj
    simp only [List.mem_append, List.mem_singleton] at hk ⊢
    rcases hk with hk | rfl
    · exact .inl (h.down k hk j hj)
    · exact .inl (hanc j hj)
  · rw [List.pairwise_append]
    refine ⟨h.order, by simp, ?_⟩
    intro a ha b hb'
    simp only [List.mem_singleton] at hb'
    subst hb'
    exact hself a ha

end
end Go.Ab
