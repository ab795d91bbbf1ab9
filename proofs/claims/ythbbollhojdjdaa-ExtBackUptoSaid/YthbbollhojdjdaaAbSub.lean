/- THE ABSTRACT MACHINE, 22: what says more, what says less: slices without parts, slices of which less is known. Conditions: none. -/
import Derived.Test.YthbbollhojdjdaaAbSimp2
namespace Go.Ab

/-- What says a says a'. -/
def SubV (a a' : AV) : Prop := nf a = true ∧ ∀ S v, V S a v → V S a' v

inductive SubL : List AV → List AV → Prop
  | nil : SubL [] []
  | refl (l : List AV) : SubL l l
  | cons {a b : AV} {l m : List AV} : SubV a b → SubL l m → SubL (a :: l) (b :: m)
  | same {a : AV} {l m : List AV} : SubL l m → SubL (a :: l) (a :: m)

theorem SubV.refl {a : AV} (h : nf a = true) : SubV a a := ⟨h, fun _ _ h => h⟩
theorem SubV.nil (sz sz' : Nat) (f f' : Bool) : SubV (.sl true sz [] f) (.sl true sz' [] f') := ⟨rfl, fun _ _ h => by
  cases h with
  | slnil => exact .slnil _ _⟩
theorem SubV.full (n : Bool) (sz : Nat) (es : List (List AV)) (f : Bool) : SubV (.sl n sz es f) (.sl n sz es false) := ⟨rfl, fun _ _ h => by
  cases h with
  | slnil => exact .slnil _ _
  | sl _ _ _ b o cap g h1 h2 h3 h4 h5 sp h6 => exact .sl _ _ _ b o cap g h1 (fun h => by cases h) h3 h4 h5 sp h6⟩

theorem SubL.length {l m : List AV} (h : SubL l m) : l.length = m.length := by
  induction h with
  | nil => rfl
  | refl => rfl
  | cons _ _ ih => simp [ih]
  | same _ ih => simp [ih]

theorem SubL.get {l m : List AV} (h : SubL l m) : ∀ i (h1 : i < l.length) (h2 : i < m.length), l[i] = m[i] ∨ SubV l[i] m[i] := by
  induction h with
  | nil => intro i h; simp at h
  | refl l => intro i h1 h2; exact .inl rfl
  | cons h _ ih =>
    intro i h1 h2
    cases i with
    | zero => exact .inr h
    | succ i => exact ih i (by simpa using h1) (by simpa using h2)
  | same _ ih =>
    intro i h1 h2
    cases i with
    | zero => exact .inl rfl
    | succ i => exact ih i (by simpa using h1) (by simpa using h2)

theorem SubV.agg {l m : List AV} (hn : nf.nfs l = true) (h : SubL l m) : SubV (.agg l) (.agg m) := ⟨hn, fun S v hv => by
  cases hv with
  | agg _ vs hl hh =>
    refine .agg _ vs (by rw [← h.length]; exact hl) fun i h1 h2 => ?_
    rcases h.get i (by rw [h.length]; exact h1) h1 with e | e
    · rw [← e]; exact hh i _ h2
    · exact e.2 S _ (hh i (by rw [h.length]; exact h1) h2)⟩

inductive SubE : List (List AV) → List (List AV) → Prop
  | nil : SubE [] []
  | refl (l : List (List AV)) : SubE l l
  | cons {a b : List AV} {l m : List (List AV)} : SubL a b → SubE l m → SubE (a :: l) (b :: m)

theorem SubE.length {l m : List (List AV)} (h : SubE l m) : l.length = m.length := by
  induction h with
  | nil => rfl
  | refl => rfl
  | cons _ _ ih => simp [ih]

theorem SubE.get {l m : List (List AV)} (h : SubE l m) : ∀ i (h1 : i < l.length) (h2 : i < m.length), SubL l[i] m[i] := by
  induction h with
  | nil => intro i h; simp at h
  | refl l => intro i h1 h2; exact .refl _
  | cons h _ ih =>
    intro i h1 h2
    cases i with
    | zero => exact h
    | succ i => exact ih i (by simpa using h1) (by simpa using h2)

/-- Parts that say less. -/
theorem SubV.parts (n : Bool) (sz : Nat) {es es' : List (List AV)} (f : Bool) (h : SubE es es') : SubV (.sl n sz es f) (.sl n sz es' false) := ⟨rfl, fun S v hv => by
  cases hv with
  | slnil =>
    have : es' = [] := List.eq_nil_of_length_eq_zero (by rw [← h.length]; rfl)
    subst this
    exact .slnil _ _
  | sl _ _ _ b o cap g h1 h2 h3 h4 h5 sp h6 =>
    rw [h.length]
    refine .sl _ _ _ b o cap g (by rw [← h.length]; exact h1) (fun h => by cases h) (fun i hi => ?_) (fun i j hi hj => h4 i j (by rw [h.length]; exact hi) hj) (fun i j hi hj => ?_) sp h6
    · rw [← (h.get i (by rw [h.length]; exact hi) hi).length]
      exact h3 i _
    · have hs := h.get i (by rw [h.length]; exact hi) hi
      have hj' : j < (es[i]'(by rw [h.length]; exact hi)).length := by rw [hs.length]; exact hj
      have hv := h5 i j (by rw [h.length]; exact hi) hj'
      rcases hs.get j hj' hj with e | e
      · rw [← e]; exact hv
      · exact e.2 S _ hv⟩

theorem SubV.vt {a a' : AV} (h : SubV a a') {S : SM} {ι : NM} {v : Value} (hv : VT S ι a v) : VT S ι a' v := .v (h.2 S v (hv.pure h.1))

/-- Results. -/
inductive SubR : List RV → List RV → Prop
  | nil : SubR [] []
  | same {r : RV} {l m : List RV} : SubR l m → SubR (r :: l) (r :: m)
  | v {a b : AV} {l m : List RV} : SubV a b → SubR l m → SubR (.v a :: l) (.v b :: m)

theorem SubR.length {l m : List RV} (h : SubR l m) : l.length = m.length := by
  induction h with
  | nil => rfl
  | same _ ih => simp [ih]
  | v _ _ ih => simp [ih]

theorem SubR.get {l m : List RV} (h : SubR l m) {S : SM} {ι : NM} : ∀ i (h1 : i < l.length) (h2 : i < m.length) (x : Value), RVT S ι l[i] x → RVT S ι m[i] x := by
  induction h with
  | nil => intro i h; simp at h
  | same _ ih =>
    intro i h1 h2 x hx
    cases i with
    | zero => exact hx
    | succ i => exact ih i (by simpa using h1) (by simpa using h2) x hx
  | v h _ ih =>
    intro i h1 h2 x hx
    cases i with
    | zero =>
      cases hx with
      | v hx => exact .v (h.2 S x hx)
    | succ i => exact ih i (by simpa using h1) (by simpa using h2) x hx

theorem FDoes.weak {P : Program} {f : FuncId} {args : List AV} {objs : List (Option Ob)} {rs rs' : List RV} {objs' : List (Option Ob)} {ex : Option Ob} (h : FDoes P f args objs rs objs' ex) (hr : SubR rs rs') : FDoes P f args objs rs' objs' ex := by
  refine ⟨h.1, fun w S ι vs h1 h2 h3 h4 h5 => (h.2 w S ι vs h1 h2 h3 h4 h5).mono ?_⟩
  rintro e w' ⟨a, b, c, S', ι', v, ⟨rfl, rfl, rfl⟩, he, ⟨ws, k1, k2, k3⟩, rest⟩
  refine ⟨rs', _, _, S', ι', v, ⟨rfl, rfl, rfl⟩, he, ⟨ws, by rw [k1, hr.length], fun i g1 g2 => ?_, k3⟩, rest⟩
  exact hr.get i (by rw [hr.length]; exact g1) g1 _ (k2 i (by rw [hr.length]; exact g1) g2)

theorem FDoes.given {P : Program} {f : FuncId} {args args' : List AV} {objs : List (Option Ob)} {rs : List RV} {objs' : List (Option Ob)} {ex : Option Ob} (h : FDoes P f args' objs rs objs' ex) (ha : SubL args args') : FDoes P f args objs rs objs' ex := by
  refine ⟨h.1, fun w S ι vs h1 h2 h3 h4 h5 => h.2 w S ι vs (by rw [h1, ha.length]) (fun j g1 g2 => ?_) h3 h4 h5⟩
  have := h2 j (by rw [ha.length]; exact g1) g2
  rcases ha.get j (by rw [ha.length]; exact g1) g1 with e | e
  · rw [← e]; exact this
  · exact e.vt this

end Go.Ab
