/- THE ABSTRACT MACHINE, 20: statements whose order is open, the end of it. Conditions: the table of types is the program's; the program's departures hold the mixed orders. -/
import Derived.Test.YthbbollhojdjdaaAbDraw2
namespace Go.Ab
set_option linter.unusedSimpArgs false

section
variable {P : Program} {E : Env}

theorem apl_congr {ops : Array Oper} {de de' : Nat → AV × Ch} : ∀ (l : List Nat) (st : St), (∀ k ∈ l, de k = de' k) → apl ops de l st = apl ops de' l st
  | [], _, _ => rfl
  | k :: l, st, h => by
    have h1 := h k (by simp)
    have := apl_congr (ops := ops) l (st.app (ops.getD k default) (de k).1 (de k).2) (fun j hj => h j (by simp [hj]))
    simp only [apl, List.foldl_cons] at this ⊢
    rw [this, h1]

theorem apl_cons {ops : Array Oper} {de : Nat → AV × Ch} {k : Nat} {l : List Nat} {st : St} : apl ops de (k :: l) st = apl ops de l (st.app (ops.getD k default) (de k).1 (de k).2) := rfl

/-- What the text's order does at the i-th. -/
def Did (P : Program) (E : Env) (ops : Array Oper) (acc : List Rec) (i : Nat) (st : St) (d : AV × Ch) : Prop :=
  (wantA ops (ops.getD i default) st.tm = some true ∧ Deed1 P E i (ops.getD i default) st d.1 d.2 ∧ (⟨i, seen (ops.getD i default).op st.tm, d.2.map (·.1)⟩ : Rec) ∈ acc) ∨
  (wantA ops (ops.getD i default) st.tm = some false ∧ d = (.tup [], []))

theorem extract {ops : Array Oper} {Q : St → List Rec → Prop} : ∀ (k i : Nat) (st : St) (acc : List Rec), i + k = ops.size → WOpsD P E ops i (ops.toList.drop i) st acc Q →
    ∃ (de : Nat → AV × Ch) (acc' : List Rec), (∀ r ∈ acc, r ∈ acc') ∧ (∀ m, m < k → Did P E ops acc' (i + m) (apl ops de (List.range' i m) st) (de (i + m))) ∧ Q (apl ops de (List.range' i k) st) acc'
  | 0, i, st, acc, hk, hW => by
    have : ops.toList.drop i = [] := List.drop_eq_nil_of_le (by simp; omega)
    rw [this] at hW
    simp only [WOpsD] at hW
    exact ⟨fun _ => (.undef, []), acc, fun _ h => h, fun m hm => by omega, hW⟩
  | k + 1, i, st, acc, hk, hW => by
    have hlt : i < ops.size := by omega
    have hdr : ops.toList.drop i = ops[i] :: ops.toList.drop (i + 1) := by
      rw [List.drop_eq_getElem_cons (by simpa using hlt)]
      simp
    have hgd : ops[i] = ops.getD i default := by simp [Array.getD, hlt]
    rw [hdr, hgd] at hW
    simp only [WOpsD] at hW
    have go : ∀ (d : AV × Ch) (acc1 : List Rec), (∀ r ∈ acc, r ∈ acc1) → (∀ acc', (∀ r ∈ acc1, r ∈ acc') → Did P E ops acc' i st d) → WOpsD P E ops (i + 1) (ops.toList.drop (i + 1)) (st.app (ops.getD i default) d.1 d.2) acc1 Q →
        ∃ (de : Nat → AV × Ch) (acc' : List Rec), (∀ r ∈ acc, r ∈ acc') ∧ (∀ m, m < k + 1 → Did P E ops acc' (i + m) (apl ops de (List.range' i m) st) (de (i + m))) ∧ Q (apl ops de (List.range' i (k + 1)) st) acc' := by
      intro d acc1 h1 h2 h3
      obtain ⟨de, acc', q1, q2, q3⟩ := extract k (i + 1) _ acc1 (by omega) h3
      have hc : ∀ m st, apl ops (fun j => if j = i then d else de j) (List.range' (i + 1) m) st = apl ops de (List.range' (i + 1) m) st := fun m st =>
        apl_congr _ _ fun j hj => by
          have : j ≠ i := by
            have := List.mem_range'_1.1 hj
            omega
          simp [this]
      refine ⟨fun j => if j = i then d else de j, acc', fun r hr => q1 r (h1 r hr), fun m hm => ?_, ?_⟩
      · cases m with
        | zero => simpa [apl] using h2 acc' q1
        | succ m =>
          rw [List.range'_succ, apl_cons, hc]
          have := q2 m (by omega)
          have e : i + 1 + m = i + (m + 1) := by omega
          rw [e] at this
          simpa using this
      · rw [List.range'_succ, apl_cons, hc]
        simpa using q3
    split at hW
    · rename_i hw
      obtain ⟨v, ch, hd, hq⟩ := WOpD_deed hW
      exact go (v, ch) _ (fun r hr => List.mem_cons_of_mem _ hr) (fun acc' h => .inl ⟨hw, hd, h _ (by simp)⟩) hq
    · rename_i hw
      exact go (.tup [], []) acc (fun r hr => hr) (fun acc' h => .inr ⟨hw, rfl⟩) hW
    · exact hW.elim

theorem CallsA.mono {f : FuncId} {args : List AV} {objs : List (Option Ob)} {Q Q' : List RV → List (Option Ob) → Option Ob → Prop} (h : CallsA P f args objs Q) (hq : ∀ a b c, Q a b c → Q' a b c) : CallsA P f args objs Q' := by
  refine ⟨h.1, fun w S ι vs h1 h2 h3 h4 h5 => Calls.mono (h.2 w S ι vs h1 h2 h3 h4 h5) ?_⟩
  rintro e w' ⟨rs, objs', ex, S', ι', v, q, rest⟩
  exact ⟨rs, objs', ex, S', ι', v, hq _ _ _ q, rest⟩

theorem WOpD_WOp {i : Nat} {o : Oper} {st : St} {Q : AV → Ch → Prop} (h : WOpD P E i o st Q) : WOp P E i o st Q := by
  unfold WOpD at h
  unfold WOp
  split at h
  · unfold WCallD at h
    unfold WCall
    split at h
    · split at h
      · obtain ⟨h1, rs, objs', ex, h2, h3⟩ := h
        refine ⟨h1, h2.mono ?_⟩
        rintro a b c ⟨rfl, rfl, rfl⟩
        exact h3
      · exact h.elim
    · exact h.elim
  · exact h

theorem wantA_congr {ops : Array Oper} {o : Oper} {tm tm' : Nat → AV} (h : ∀ g b t, o.guard = some (g, b) → (ops[g]?).bind (·.dst) = some t → tm t = tm' t) : wantA ops o tm = wantA ops o tm' := by
  unfold wantA
  split
  · rfl
  · rename_i j want hg
    split
    · rfl
    · rename_i t ht
      rw [h _ _ _ hg ht]

theorem R.drew {C : Ctx} {dn : Nat → Prop} {S : SM} {ι : NM} {st : St} {a : Act} {w : World} (h : R C dn S ι st a w) : R C dn S ι st a { w with drawn := w.drawn + 1 } :=
  ⟨h.size, h.tm, h.defers, h.hr.same rfl, h.sle, h.snew, ⟨h.fr.os, h.fr.tape, h.fr.output, h.fr.size, h.fr.block⟩, h.own, h.ile, h.arg, h.dom⟩

theorem meets_false {a b : List Nm} (h : meets a b = false) : ∀ x, x ∈ a → x ∈ b → False := by
  intro x h1 h2
  have : meets a b = true := by
    unfold meets
    rw [List.any_eq_true]
    exact ⟨x, h1, by rw [List.any_eq_true]; exact ⟨x, h2, by simp⟩⟩
  rw [h] at this; cases this

theorem ordered_ord {ops : Array Oper} {i j : Nat} (h : ordered (ahead ops) i j = true) : ord ops i j := by
  unfold ordered ahead at h
  rw [Bool.or_eq_true] at h
  exact h

theorem conf_spec {ops : Array Oper} {acc : List Rec} (h : confFree (ahead ops) acc = true) {r s : Rec} (hr : r ∈ acc) (hs : s ∈ acc) (hne : r.i ≠ s.i) {nm : Nm} (h1 : nm ∈ r.wr) (h2 : nm ∈ s.see ∨ nm ∈ s.wr) : ord ops r.i s.i := by
  unfold confFree at h
  have h3 := List.all_eq_true.1 h r hr
  have hw : r.wr.isEmpty = false := by
    cases hq : r.wr with
    | nil => rw [hq] at h1; cases h1
    | cons a l => rfl
  rw [hw, Bool.false_or] at h3
  have h4 := List.all_eq_true.1 h3 s hs
  simp only [Bool.or_eq_true, decide_eq_true_eq, Bool.and_eq_true, Bool.not_eq_true'] at h4
  rcases h4 with (h4 | h4) | h4
  · exact absurd h4 hne
  · rcases h2 with h2 | h2
    · exact (meets_false h4.1 nm h1 h2).elim
    · exact (meets_false h4.2 nm h1 h2).elim
  · exact ordered_ord h4

structure DrawSpec (ops : Array Oper) : Prop where
  back : ∀ (i : Nat) (o : Oper), ops[i]? = some o → ∀ e, e ∈ o.after → Region.binds .any e = true → e.on < i
  one : ∀ i j, i < ops.size → j < ops.size → i ≠ j → ∀ t, (ops.getD i default).dst = some t → (ops.getD j default).dst = some t → False
  reads : ∀ i j, i < ops.size → j < ops.size → i ≠ j → ∀ t, (ops.getD j default).dst = some t → (.tmp t ∈ (ops.getD i default).op.operands ∨ ∃ b, (ops.getD i default).guard = some (j, b)) → ord ops i j

theorem drawOK_spec {ops : Array Oper} (h : drawOK ops = true) : DrawSpec ops := by
  unfold drawOK at h
  simp only at h
  have mem : ∀ i (hi : i < ops.size), (ops.getD i default, i) ∈ ops.toList.zipIdx := by
    intro i hi
    rw [List.mem_zipIdx_iff_getElem?]
    simp [Array.getD, hi]
  have h1 : ∀ i, i < ops.size → ((ops.getD i default).after.all fun e => !Region.binds .any e || Nat.blt e.on i) = true ∧ ∀ j, j < ops.size → (Nat.beq i j || match (ops.getD j default).dst with
      | none => true
      | some d => (match (ops.getD i default).dst with | some d' => !Nat.beq d d' | none => true) &&
        (((ops.getD i default).op.operands.toList.all fun x => match x with | .tmp t => !Nat.beq t d | _ => true) && (match (ops.getD i default).guard with | some (g, _) => !Nat.beq g j | none => true) || ordered (ahead ops) i j)) = true := by
    intro i hi
    have h2 := List.all_eq_true.1 h _ (mem i hi)
    rw [Bool.and_eq_true] at h2
    exact ⟨h2.1, fun j hj => List.all_eq_true.1 h2.2 _ (mem j hj)⟩
  refine ⟨fun i o ho e he hb => ?_, fun i j hi hj hne t q1 q2 => ?_, fun i j hi hj hne t q1 q2 => ?_⟩
  · obtain ⟨hi, e1⟩ := Array.getElem?_eq_some_iff.1 ho
    have h2 := (h1 i hi).1
    have : ops.getD i default = o := by simp [Array.getD, hi, e1]
    rw [this] at h2
    have h3 := (Array.all_eq_true_iff_forall_mem.1 h2) e he
    simpa [hb] using h3
  · have h2 := (h1 i hi).2 j hj
    rw [q1, q2] at h2
    have hb : Nat.beq i j = false := by
      cases hq : Nat.beq i j with
      | false => rfl
      | true => exact absurd (Nat.eq_of_beq_eq_true hq) hne
    have hb2 : Nat.beq t t = true := by simp
    simp [hb] at h2
  · have h2 := (h1 i hi).2 j hj
    rw [q1] at h2
    have hb : Nat.beq i j = false := by
      cases hq : Nat.beq i j with
      | false => rfl
      | true => exact absurd (Nat.eq_of_beq_eq_true hq) hne
    rw [hb, Bool.false_or] at h2
    simp only [Bool.and_eq_true, Bool.or_eq_true] at h2
    rcases h2.2 with ⟨h3, h4⟩ | h3
    · exfalso
      rcases q2 with q2 | ⟨b, q2⟩
      · have := List.all_eq_true.1 h3 _ (by simpa using q2)
        simp at this
      · rw [q2] at h4
        simp at h4
    · exact ordered_ord h3

theorem nodup_len : ∀ (n : Nat) (L : List Nat), L.Nodup → (∀ x ∈ L, x < n) → L.length ≤ n
  | 0, L, _, h => by
    cases L with
    | nil => simp
    | cons a l => have := h a (by simp); omega
  | n + 1, L, hn, h => by
    have h1 := nodup_len n (L.erase n) (hn.erase n) (fun x hx => by
      have q1 := h x (List.mem_of_mem_erase hx)
      have q2 : x ≠ n := fun e => by subst e; exact (List.Nodup.not_mem_erase hn) hx
      omega)
    have := List.length_erase (a := n) (l := L)
    split at this <;> omega

/-- Every order that the edges allow. -/
theorem draw_ok (hT : TTok P E.tt) (hm : P.follows .mixedOrders = true) : DrawOk P E := by
  intro C id ops hok S ι st a w Q Qx hR hW hQ
  simp only [codeOK, Bool.and_eq_true, Bool.not_true, Bool.false_or] at hok
  obtain ⟨hd, hdr⟩ := hok
  have hd' : ∀ i, i < ops.size → dstOk C.n (ops.getD i default).dst = true := fun i hi => List.all_eq_true.1 hd _ (by simp [Array.getD, hi])
  obtain ⟨hback, hone, hreads⟩ := drawOK_spec hdr
  obtain ⟨de, acc, -, hsteps, hconf, hq⟩ := extract (P := P) (E := E) (ops := ops) ops.size 0 st [] (by simp) (by simpa using hW)
  simp only [Nat.zero_add, ← List.range_eq_range'] at hsteps hq
  -- writers of a slot, of an object
  have wTp : ∀ t j k, j < ops.size → k < ops.size → wT ops t j = true → wT ops t k = true → j ≠ k → ord ops j k := by
    intro t j k hj hk q1 q2 hne
    simp only [wT, decide_eq_true_eq] at q1 q2
    exact (hone j k hj hk hne t q1 q2).elim
  have rec_ : ∀ k, k < ops.size → ∀ nm, wH de nm k = true → ∃ see, (⟨k, see, (de k).2.map (·.1)⟩ : Rec) ∈ acc := by
    intro k hk nm q
    rcases hsteps k hk with ⟨_, _, h⟩ | ⟨_, h⟩
    · exact ⟨_, h⟩
    · simp only [wH, decide_eq_true_eq, h] at q; cases q
  have wHp : ∀ nm j k, j < ops.size → k < ops.size → wH de nm j = true → wH de nm k = true → j ≠ k → ord ops j k := by
    intro nm j k hj hk q1 q2 hne
    obtain ⟨s1, r1⟩ := rec_ j hj nm q1
    obtain ⟨s2, r2⟩ := rec_ k hk nm q2
    simp only [wH, decide_eq_true_eq] at q1 q2
    exact conf_spec hconf r1 r2 hne q1 (.inr q2)
  refine wp_region_any hm ?_
  have main : ∀ (fuel : Nat) (L : List Nat) (listed : Array Bool) (S : SM) (ι : NM) (a : Act) (w : World), L.length + fuel = ops.size → Done ops L → listed.size = ops.size → (∀ k, k < ops.size → (listed.getD k false = true ↔ k ∈ L)) →
      R C (fun k => k ∈ L) S ι (apl ops de L st) a w → wpAny P .any ops Qx fuel listed a w := by
    have fin : ∀ (L : List Nat) (S : SM) (ι : NM) (a : Act) (w : World), Done ops L → (∀ k, k < ops.size → k ∈ L) → R C (fun k => k ∈ L) S ι (apl ops de L st) a w → Qx .normal a w := by
      intro L S ι a w hL hall hR
      have e : apl ops de L st = apl ops de (List.range ops.size) st := by
        have e1 : (apl ops de L st).tm = (apl ops de (List.range ops.size) st).tm := by
          funext t
          rw [apl_tm L rfl, apl_tm (List.range ops.size) rfl, hL.all hback hall (wTp t)]
        have e2 : (apl ops de L st).hp = (apl ops de (List.range ops.size) st).hp := by
          funext nm
          rw [apl_hp L rfl, apl_hp (List.range ops.size) rfl, hL.all hback hall (wHp nm)]
        have e3 : (apl ops de L st).clk = (apl ops de (List.range ops.size) st).clk := by rw [apl_clk, apl_clk]
        cases hx : apl ops de L st
        cases hy : apl ops de (List.range ops.size) st
        rw [hx, hy] at e1 e2 e3
        simp only at e1 e2 e3
        rw [e1, e2, e3]
      rw [e] at hR
      exact hQ _ _ _ _ _ hq (R.tick (n := ops.size) (hR.mono fun k hk => hL.lt k hk))
    have full : ∀ (L : List Nat), Done ops L → L.length = ops.size → ∀ k, k < ops.size → k ∈ L := by
      intro L hL hlen k hk
      refine Classical.byContradiction fun hc => ?_
      have := nodup_len ops.size (k :: L) (List.nodup_cons.2 ⟨hc, hL.nodup⟩) (fun x hx => by
        rcases List.mem_cons.1 hx with rfl | hx
        · exact hk
        · exact hL.lt x hx)
      simp only [List.length_cons] at this
      omega
    intro fuel
    induction fuel with
    | zero =>
      intro L listed S ι a w hlen hL hsz hlist hR
      have hall := full L hL (by simpa using hlen)
      refine ⟨?_, fin L S ι a w hL hall hR⟩
      unfold Region.ready
      rw [List.filter_eq_nil_iff]
      intro i hi
      have hi' := List.mem_range.1 hi
      have := (hlist i hi').2 (hall i hi')
      have e : listed.getD i true = true := by
        simpa [Array.getD, show i < listed.size by omega] using this
      simp [e]
    | succ fuel ih =>
      intro L listed S ι a w hlen hL hsz hlist hR
      have isReady : ∀ i, i ∈ Region.ready .any ops listed ↔ i < ops.size ∧ i ∉ L ∧ ∀ e, e ∈ (ops.getD i default).after → Region.binds .any e = true → e.on ∈ L := by
        intro i
        unfold Region.ready
        rw [List.mem_filter, List.mem_range]
        refine ⟨fun ⟨h1, h2⟩ => ?_, fun ⟨h1, h2, h3⟩ => ⟨h1, ?_⟩⟩
        · rw [Bool.and_eq_true] at h2
          have hi : ops[i]? = some (ops.getD i default) := by simp [Array.getD, h1]
          refine ⟨h1, fun hc => ?_, fun e he hb => ?_⟩
          · have := (hlist i h1).2 hc
            have e : listed.getD i true = true := by simpa [Array.getD, show i < listed.size by omega] using this
            simp [e] at h2
          · have h4 := h2.2
            rw [hi] at h4
            simp only [Option.map_some, Option.getD_some] at h4
            have h5 := (Array.all_eq_true_iff_forall_mem.1 h4) e he
            have hlt := hback i _ hi e he hb
            have : listed.getD e.on false = true := by simpa [hb] using h5
            exact (hlist _ (by omega)).1 this
        · have hi : ops[i]? = some (ops.getD i default) := by simp [Array.getD, h1]
          rw [Bool.and_eq_true, hi]
          refine ⟨?_, ?_⟩
          · have : ¬ listed.getD i false = true := fun h => h2 ((hlist i h1).1 h)
            simpa [Array.getD, show i < listed.size by omega] using this
          · simp only [Option.map_some, Option.getD_some]
            refine Array.all_eq_true_iff_forall_mem.2 fun e he => ?_
            cases hb : Region.binds .any e with
            | false => rfl
            | true =>
              have hlt := hback i _ hi e he hb
              have := (hlist _ (by omega)).2 (h3 e he hb)
              simp [this]
      refine ⟨fun hnil => ?_, fun i hi => ?_⟩
      · -- nothing is ready: all is done
        refine fin L S ι a w hL (fun k hk => ?_) hR
        have : ∀ k, k < ops.size → k ∈ L := by
          intro k
          induction k using Nat.strongRecOn with
          | ind k ihk =>
            intro hk
            refine Classical.byContradiction fun hc => ?_
            have : k ∈ Region.ready .any ops listed := (isReady k).2 ⟨hk, hc, fun e he hb => by
              have hlt := hback k _ (by simp [Array.getD, hk] : ops[k]? = some (ops.getD k default)) e he hb
              exact ihk _ hlt (by omega)⟩
            rw [hnil] at this
            cases this
        exact this k hk
      · obtain ⟨hi1, hi2, hi3⟩ := (isReady i).1 hi
        have hget : ops[i]? = some (ops.getD i default) := by simp [Array.getD, hi1]
        have hanc : ∀ j, anc ops j i → j ∈ L := by
          intro j hj
          obtain ⟨o, q1, e, q2, q3, q4⟩ := anc_spec hj
          rw [hget] at q1
          cases q1
          rcases q4 with q | q
          · rw [← q]; exact hi3 e q2 q3
          · exact hL.down _ (hi3 e q2 q3) _ q
        have hself : ∀ k ∈ L, ¬ anc ops i k := fun k hk q => hi2 (hL.down k hk _ q)
        have hL' := hL.step hi1 hi2 hanc hself
        -- what it reads stands as in the text's order
        have htm : ∀ t, (∀ k, k < ops.size → wT ops t k = true → k ≠ i → ord ops i k) → (apl ops de (List.range i) st).tm t = (apl ops de L st).tm t := by
          intro t h
          rw [apl_tm L rfl, apl_tm (List.range i) rfl, hL.reads hback hi1 hi2 hanc (wTp t) h]
        have hg : ∀ x ∈ (ops.getD i default).op.operands, Ab.get (apl ops de (List.range i) st).tm x = Ab.get (apl ops de L st).tm x := by
          intro x hx
          cases x with
          | tmp t =>
            refine htm t fun k hk q hne => ?_
            simp only [wT, decide_eq_true_eq] at q
            exact hreads i k hi1 hk (Ne.symm hne) t q (.inl hx)
          | _ => rfl
        have hwant : wantA ops (ops.getD i default) (apl ops de (List.range i) st).tm = wantA ops (ops.getD i default) (apl ops de L st).tm := by
          refine wantA_congr fun g b t q1 q2 => htm t fun k hk q hne => ?_
          simp only [wT, decide_eq_true_eq] at q
          have hgk : g = k := by
            refine Classical.byContradiction fun hgk => ?_
            cases hgo : ops[g]? with
            | none => rw [hgo] at q2; cases q2
            | some og =>
              obtain ⟨hlt, e⟩ := Array.getElem?_eq_some_iff.1 hgo
              rw [hgo] at q2
              exact hone g k hlt hk hgk t (by simpa [Array.getD, hlt, e] using q2) q
          subst hgk
          exact hreads i g hi1 hk (Ne.symm hne) t q (.inr ⟨b, q1⟩)
        have next : ∀ (S' : SM) (ι' : NM) (a' : Act) (w' : World), R C (fun k => k ∈ L ++ [i]) S' ι' ((apl ops de L st).app (ops.getD i default) (de i).1 (de i).2) a' w' → wpAny P .any ops Qx fuel (listed.setIfInBounds i true) a' w' := by
          intro S' ι' a' w' hR'
          refine ih (L ++ [i]) _ S' ι' a' w' (by simp; omega) hL' (by simpa using hsz) (fun k hk => ?_) ?_
          · simp only [List.mem_append, List.mem_singleton]
            by_cases hki : i = k
            · subst hki
              simp [Array.getD, show i < listed.size by omega]
            · have e : (listed.setIfInBounds i true).getD k false = listed.getD k false := by
                simp only [Array.getD_eq_getD_getElem?, Array.getElem?_setIfInBounds_ne hki]
              rw [e, hlist k hk]
              exact ⟨.inl, fun h => h.resolve_right (Ne.symm hki)⟩
          · rw [apl_append]
            exact hR'
        have hmem : i ∈ L ++ [i] := by simp
        have hsub : ∀ j, j ∈ L → j ∈ L ++ [i] := fun j hj => List.mem_append_left _ hj
        unfold wpOp
        rw [hget]
        simp only
        rcases hsteps i hi1 with ⟨s1, s2, s3⟩ | ⟨s1, s2⟩
        · rw [hwant] at s1
          have := want_ok hR s1
          simp only [this, if_true]
          refine .inl ?_
          have hdeed := Deed1_congr s2 hg (fun nm hnm => ?_) (by rw [apl_clk, apl_clk])
          · refine wp_op hT hR hi2 hmem hsub (hd' i hi1) (WOpD_WOp hdeed) ?_
            rintro v ch S' ι' a' w' ⟨rfl, rfl⟩ hR'
            exact next _ _ _ _ hR'
          · rw [apl_hp L rfl, apl_hp (List.range i) rfl, hL.reads hback hi1 hi2 hanc (wHp nm) ?_]
            intro k hk q hne
            obtain ⟨see, hr⟩ := rec_ k hk nm q
            simp only [wH, decide_eq_true_eq] at q
            have := conf_spec hconf hr s3 hne q (.inl hnm)
            exact this.symm
        · rw [hwant] at s1
          have := want_ok hR s1
          simp only [this, Bool.false_eq_true, if_false]
          refine next S ι _ w ?_
          have := R.skip hR (dn' := fun k => k ∈ L ++ [i]) (i := i) hmem hsub (hd' i hi1)
          rw [s2]
          exact this
  refine main ops.size [] _ S ι a _ (by simp) ⟨by simp, by simp, by simp, by simp⟩ (by simp) (fun k hk => by simp [Array.getD]) ?_
  exact (hR.drew).mono fun k hk => hk.elim

end
end Go.Ab
