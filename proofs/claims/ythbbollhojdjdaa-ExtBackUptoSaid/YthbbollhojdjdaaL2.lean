/- WALKS: term.List. Conditions: none. -/
import Derived.Test.YthbbollhojdjdaaL1
import Derived.Test.YthbbollhojdjdaaWE
namespace Go.Proofs.Ythbbollhojdjdaa
open Go.RowKit Go.Shelf Go.Ab
attribute [local go_sem] Oper.semAt_some

def listT (l : List T) (t : T) : T := l.foldr (fun h a => .mk 4 false true [] [] 0 false [h, a]) t
def lget (l : List T) (i : Nat) : T := (l[i]?).getD T0
def cons4 (h t : T) : T := .mk 4 false true [] [] 0 false [h, t]
def listF (l : List T) (t : T) (pre : List Nat) : T := pre.foldl (fun a i => cons4 (lget l i) a) t

theorem listF_all (l : List T) (t : T) : listF l t (down l.length 0) = listT l t := by
  unfold listF down
  rw [List.foldl_reverse, Nat.sub_zero]
  have e : (List.range' 0 l.length).map (lget l) = l := by
    apply List.ext_getElem
    · simp
    · intro i h1 h2
      simp [lget, h2]
  conv => rhs; rw [← e]
  unfold listT
  rw [List.foldr_map]
  rfl

def LI (S : SM) (w : World) (l : List T) (t : T) (pre : List Nat) (W : World) : Prop :=
  ∃ (S' : SM) (y0 y1 y2 y3 y4 y5 : Value), w.heap.size + 3 ≤ W.heap.size ∧ W.heap[w.heap.size + 1]? = some (.cells #[Value.int IntKind.i64 0, Value.bool false, Value.slice none 0 0, Value.string { data := #[] }, Value.int IntKind.i64 0, Value.slice none 0 0] 28) ∧ SLe S S' ∧ (∀ b o, S' b = some o → S b = some o ∨ (w.heap.size + 3 ≤ b ∧ o.isCells = true)) ∧ (∀ b o, S' b = some o → W.heap[b]? = some o) ∧
    W.heap[w.heap.size]? = some (.cells #[y0, y1, y2, y3, y4, y5] 28) ∧ VL S' (tC (listF l t pre)) [y0, y1, y2, y3, y4, y5]

theorem LI_own {S : SM} {w : World} (hS : ∀ b o, S b = some o → w.heap[b]? = some o) (l : List T) (t : T) : OwnFrom (w.heap.size + 3) (LI S w l t) := by
  rintro pre W W' row ⟨S', y0, y1, y2, y3, y4, y5, h0, h9, h1, h2, h3, h4, h5⟩ hg hr
  have keep : ∀ b o, W.heap[b]? = some o → (b < w.heap.size + 3 ∨ o.isCells = true) → W'.heap[b]? = some o := by
    intro b o hb hc
    have hlt := (Array.getElem?_eq_some_iff.1 hb).1
    rw [hg.block b hlt ?_]
    · exact hb
    · intro e
      obtain ⟨q1, o', q2, q3⟩ := hr b e.symm
      rcases hc with hc | hc
      · omega
      · rw [hb] at q2; cases q2; rw [hc] at q3; cases q3
  refine ⟨S', y0, y1, y2, y3, y4, y5, Nat.le_trans h0 hg.size, keep _ _ h9 (.inl (by omega)), h1, h2, fun b o hb => ?_, keep _ _ h4 (.inl (by omega)), h5⟩
  rcases h2 b o hb with h | ⟨_, h⟩
  · have := (Array.getElem?_eq_some_iff.1 (hS b o h)).1
    exact keep _ _ (h3 b o hb) (.inl (by omega))
  · exact keep _ _ (h3 b o hb) (.inr h)

theorem six_store (P : Program) (w : World) (b : Nat) (e : TypeId) (c0 c1 c2 c3 c4 c5 v0 v1 v2 v3 v4 v5 : Value) (hb : w.heap[b]? = some (.cells #[c0, c1, c2, c3, c4, c5] e))
    (h0 : v0.oneCell' = true) (h1 : v1.oneCell' = true) (h2 : v2.oneCell' = true) (h3 : v3.oneCell' = true) (h4 : v4.oneCell' = true) (h5 : v5.oneCell' = true) :
    ((Sem.run P (store ⟨b, 0, none⟩ v0) w).andThen fun a w' => (Sem.run P (store ⟨b, 1, none⟩ v1) w').andThen fun a w' => (Sem.run P (store ⟨b, 2, none⟩ v2) w').andThen fun a w' =>
      (Sem.run P (store ⟨b, 3, none⟩ v3) w').andThen fun a w' => (Sem.run P (store ⟨b, 4, none⟩ v4) w').andThen fun a w' => Sem.run P (store ⟨b, 5, none⟩ v5) w') = .ok () (w.setRow b #[v0, v1, v2, v3, v4, v5]) := by
  have := run_storeCells_at (P := P) b 0 e [v0, v1, v2, v3, v4, v5] 0 #[c0, c1, c2, c3, c4, c5] w hb (by simp) (by
    intro v hv
    simp only [List.mem_cons, List.not_mem_nil, or_false] at hv
    rcases hv with rfl | rfl | rfl | rfl | rfl | rfl <;> assumption)
  simpa [storeCells, Addr.add] using this

theorem six_set (W : World) (b : Nat) (e : TypeId) (c0 c1 c2 c3 c4 c5 v0 v1 v2 v3 v4 v5 : Value) (hb : W.heap[b]? = some (.cells #[c0, c1, c2, c3, c4, c5] e))
    (h : ∀ v ∈ [v0, v1, v2, v3, v4, v5], v.oneCell' = true) :
    (((((W.setCell ⟨b, 0, none⟩ v0).setCell ⟨b, 1, none⟩ v1).setCell ⟨b, 2, none⟩ v2).setCell ⟨b, 3, none⟩ v3).setCell ⟨b, 4, none⟩ v4).setCell ⟨b, 5, none⟩ v5 = W.setRow b #[v0, v1, v2, v3, v4, v5] := by
  have h1 := run_storeCells_cells (P := Try.prog) b 0 [v0, v1, v2, v3, v4, v5] 0 W (by
    intro j hj
    have : j < 6 := hj
    simp only [World.cell?, hb, Nat.zero_add]
    rw [Option.isSome_iff_exists]
    exact ⟨_, Array.getElem?_eq_getElem (by simpa using this)⟩) (by intro j hj; simp [World.frozen?, hb]) h
  have h2 := run_storeCells_at (P := Try.prog) b 0 e [v0, v1, v2, v3, v4, v5] 0 #[c0, c1, c2, c3, c4, c5] W hb (by simp) h
  rw [h1] at h2
  have h3 : W.setCells b (0 + 0) [v0, v1, v2, v3, v4, v5] = W.setRow b #[v0, v1, v2, v3, v4, v5] := by
    have := Result.ok.inj h2
    simpa using this.2
  exact h3

theorem VL_one {S : SM} {xs : List AV} {vs : List Value} (h : VL S xs vs) (ho : xs.all one = true) : ∀ v ∈ vs, v.oneCell' = true := by
  induction h with
  | nil => intro v hv; simp at hv
  | cons h1 _ ih =>
    rw [List.all_cons, Bool.and_eq_true] at ho
    intro v hv
    rcases List.mem_cons.1 hv with rfl | hv
    · exact h1.oneCell ho.1
    · exact ih ho.2 v hv

/-- Two parts of six cells each, one behind the other. -/
theorem V_pair {S : SM} {xs ys : List AV} {X Y : List Value} (hx : VL S xs X) (hy : VL S ys Y) (h6 : X.length = 6) (k6 : Y.length = 6) {b : Nat} {e : TypeId} {fr : Nat × Nat} (hb : S b = some (.cells (X ++ Y).toArray e fr)) :
    V S (.sl false 6 [xs, ys] false) (.slice (some ⟨b, 0, none⟩) 2 2) := by
  have lx := hx.length
  have ly := hy.length
  refine V.sl (S := S) 6 [xs, ys] false b 0 2 (fun i j => ((X ++ Y)[i * 6 + j]?).getD undef) (Nat.le_refl _) (fun h => by cases h) ?_ ?_ ?_ none (fun _ => rfl)
  · intro i hi
    match i, hi with
    | 0, _ => show xs.length = 6; omega
    | 1, _ => show ys.length = 6; omega
  · intro i j hi hj
    have hi' : i < 2 := hi
    unfold scell
    rw [hb]
    simp only [Nat.zero_add]
    have : i * 6 + j < (X ++ Y).length := by rw [List.length_append]; omega
    rw [List.getElem?_toArray, List.getElem?_eq_getElem this]
    rfl
  · intro i j hi hj
    match i, hi with
    | 0, _ =>
      have hj' : j < xs.length := hj
      have : (X ++ Y)[0 * 6 + j]? = some X[j] := by rw [Nat.zero_mul, Nat.zero_add, List.getElem?_append_left (by omega), List.getElem?_eq_getElem (by omega)]
      show V S xs[j] (((X ++ Y)[0 * 6 + j]?).getD undef)
      rw [this]
      exact hx.get j hj' (by omega)
    | 1, _ =>
      have hj' : j < ys.length := hj
      have : (X ++ Y)[1 * 6 + j]? = some Y[j] := by rw [List.getElem?_append_right (by omega), show 1 * 6 + j - X.length = j by omega, List.getElem?_eq_getElem (by omega)]
      show V S ys[j] (((X ++ Y)[1 * 6 + j]?).getD undef)
      rw [this]
      exact hy.get j hj' (by omega)

theorem VLmono {S S' : SM} (h : SLe S S') {xs : List AV} {vs : List Value} (hv : VL S xs vs) : VL S' xs vs := by
  induction hv with
  | nil => exact .nil
  | cons h1 _ ih => exact .cons (h1.mono h) ih

theorem tC_cons4 (h t : T) : tC (cons4 h t) = [.int .i64 4, .bool false, .sl true 1 [] false, .str [], .int .i64 0, .sl false 6 [tC h, tC t] false] := by
  simp only [cons4, tC, tKs, lsl_nil]

/-- A new block, written. -/
theorem newRow (W : World) (e : TypeId) (Z X : Array Value) : (∀ b, b < W.heap.size → ((W.alloc (.cells Z e)).setRow W.heap.size X).heap[b]? = W.heap[b]?) ∧ ((W.alloc (.cells Z e)).setRow W.heap.size X).heap[W.heap.size]? = some (.cells X e) ∧
    ((W.alloc (.cells Z e)).setRow W.heap.size X).heap.size = W.heap.size + 1 :=
  ⟨fun b hb => by rw [setRow_other _ _ _ _ (by omega)]; exact Below.heap_alloc W _ b hb, setRow_heap _ _ Z _ e (0, 0) (World.alloc_heap_new W _), by simp⟩

set_option maxRecDepth 100000 in
set_option maxHeartbeats 2000000 in
theorem List_in (F : Fence) (n : Nat) (h84 : F.fn 84) (h93 : F.fn 93) (h95 : F.fn 95) (hro : F.round = none) (hn : 3 ≤ n) (a : Option Addr) (len cap : Nat) (f : Nat → Nat → Value) (t0 t1 t2 t3 t4 t5 : Value) (hreach : len * 8 ≤ 140737488351232) (w : World)
    (hI : Sixes w.heap.size w (.slice a len cap) len f) (S : SM) (hS : ∀ b o, S b = some o → w.heap[b]? = some o) (l : List T) (hl : l.length = len) (t : T)
    (hf : ∀ x, VL S (tC (lget l x)) [f x 0, f x 1, f x 2, f x 3, f x 4, f x 5]) (ht : VL S (tC t) [t0, t1, t2, t3, t4, t5]) :
    CallsIn F n Try.prog 84 #[.slice a len cap, .agg #[t0, t1, t2, t3, t4, t5]] w fun e W' => ∃ y0 y1 y2 y3 y4 y5 S', e = .returned (.agg #[y0, y1, y2, y3, y4, y5]) ∧ VL S' (tC (listT l t)) [y0, y1, y2, y3, y4, y5] ∧
      SLe S S' ∧ (∀ b o, S' b = some o → S b = some o ∨ w.heap.size ≤ b) ∧ (∀ b o, S' b = some o → W'.heap[b]? = some o) ∧ Below w.heap.size w W' := by
  have h1 : 1 ≤ n := by omega
  refine callsIn_of_wp_marks Try.func84 rfl h84 ?_ hro
  simp only [Try.ntmps84, List.size_toArray, List.length_cons, List.length_nil, Nat.reduceAdd, Nat.reduceSub, Array.replicate_succ, Array.replicate_zero, List.push_toArray, List.append_toArray, List.nil_append, List.cons_append]
  gi_wp2_with (gi_at_call 93; refine (back_in F (n - 1) h93 hro _ _ _ _).mono ?_; rintro e w' ⟨rfl, rfl⟩)
  obtain ⟨w3, hw3⟩ : ∃ w3, (((w.alloc (Obj.cells #[t0, t1, t2, t3, t4, t5] 28)).alloc
          (Obj.cells #[Value.int IntKind.i64 0, Value.bool false, Value.slice none 0 0, Value.string { data := #[] }, Value.int IntKind.i64 0, Value.slice none 0 0] 28)).alloc
      (Obj.cells #[Value.slice a len cap] 26)) = w3 := ⟨_, rfl⟩
  have hsz : w3.heap.size = w.heap.size + 3 := by rw [← hw3]; simp
  have hB0 : Below w.heap.size w w3 := by rw [← hw3]; exact (((Below.refl _ w).alloc (Nat.le_refl _) _).alloc (by simp) _).alloc (by simp; omega) _
  have hbx : w3.cell? ⟨w.heap.size + 1 + 1, 0, none⟩ = some (.slice a len cap) := by
    rw [← hw3]
    have := (Boxed.new ((w.alloc (Obj.cells #[t0, t1, t2, t3, t4, t5] 28)).alloc (Obj.cells #[Value.int IntKind.i64 0, Value.bool false, Value.slice none 0 0, Value.string { data := #[] }, Value.int IntKind.i64 0, Value.slice none 0 0] 28)) 26 (.slice a len cap)).cell
    simpa using this
  have hb3 : w3.heap[w.heap.size]? = some (.cells #[t0, t1, t2, t3, t4, t5] 28) := by
    rw [← hw3, Below.heap_alloc _ _ _ (by simp; omega), Below.heap_alloc _ _ _ (by simp)]
    exact World.alloc_heap_new w _
  have hb4 : w3.heap[w.heap.size + 1]? = some (Obj.cells #[Value.int IntKind.i64 0, Value.bool false, Value.slice none 0 0, Value.string { data := #[] }, Value.int IntKind.i64 0, Value.slice none 0 0] 28) := by
    rw [← hw3, Below.heap_alloc _ _ _ (by simp)]
    have := World.alloc_heap_new (w.alloc (Obj.cells #[t0, t1, t2, t3, t4, t5] 28)) (Obj.cells #[Value.int IntKind.i64 0, Value.bool false, Value.slice none 0 0, Value.string { data := #[] }, Value.int IntKind.i64 0, Value.slice none 0 0] 28)
    rwa [World.size_alloc] at this
  rw [hw3]
  clear hw3
  refine wpIn_rangeFunc_ownH hro h1 (gf := 95) (lb := #[.pointer (some ⟨w.heap.size + 1 + 1, 0, none⟩)]) rfl h95 (enters_of Try.func95 (by kernel_rfl) rfl)
    (back_stops F (n - 1) h95 hro (by omega) (w.heap.size + 1 + 1) w.heap.size _ len f hreach w3 (by omega) (by omega) hbx (hI.below hB0)) (fun h k => h.trans k)
    (fun W l o o' hl ho hc hk => ⟨belowK_b (w := w) (Nat.le_refl _) W l o o' (by omega) ho hc hk, World.putObj_heap_other (by omega)⟩) (Below.refl _ _) (fun _ => rfl)
    (fun pre W => LI S w l t pre W ∧ Below w.heap.size w W) (fun _ _ _ => False)
    (OwnFrom.and (by rw [hsz]; exact LI_own hS l t) (ownFrom_below (Nat.le_refl _) (by omega)))
    (fun _ _ _ _ _ hs _ _ => hs)
    ⟨⟨S, t0, t1, t2, t3, t4, t5, by omega, hb4, SLe.refl _, fun b o h => .inl h, fun b o h => (hB0.block b (Array.getElem?_eq_some_iff.1 (hS b o h)).1).trans (hS b o h), hb3, ht⟩, hB0⟩
    (fun x a' W => ∃ Bx, w.heap.size + 3 ≤ Bx ∧ W.heap[Bx]? = some (.cells #[f x 0, f x 1, f x 2, f x 3, f x 4, f x 5] 28) ∧ a' = { tmps := #[.slice a len cap, .agg #[t0, t1, t2, t3, t4, t5], undef, .pointer (some ⟨w.heap.size, 0, none⟩), .pointer (some ⟨w.heap.size + 1, 0, none⟩), undef, .pointer (some ⟨Bx, 0, none⟩), .slice a len cap,
      .func (.func 95) #[] #[.pointer (some ⟨w.heap.size + 1 + 1, 0, none⟩)], .int .i64 (x : Nat), .agg #[f x 0, f x 1, f x 2, f x 3, f x 4, f x 5], undef, undef, undef, undef, undef], defers := [] })
    ?hAx ?assign ?body ?done ?stop
  case hAx =>
    rintro x a' _ W W' row ⟨Bx, q1, q2, q3⟩ hg hr
    refine ⟨Bx, q1, ?_, q3⟩
    rw [hg.block Bx (Array.getElem?_eq_some_iff.1 q2).1 ?_]
    · exact q2
    · intro e
      obtain ⟨_, o', q4, q5⟩ := hr Bx e.symm
      rw [q2] at q4; cases q4; cases q5
  case assign =>
    intro l' pre x W K hi hK
    gi_wp2
    have ho := VL_one (hf x) (tC_all _)
    have hnew := World.alloc_heap_new W (Obj.cells #[Value.int IntKind.i64 0, Value.bool false, Value.slice none 0 0, Value.string { data := #[] }, Value.int IntKind.i64 0, Value.slice none 0 0] 28)
    rw [six_store Try.prog _ W.heap.size 28 _ _ _ _ _ _ (f x 0) (f x 1) (f x 2) (f x 3) (f x 4) (f x 5) hnew (ho _ (by simp)) (ho _ (by simp)) (ho _ (by simp)) (ho _ (by simp)) (ho _ (by simp)) (ho _ (by simp))]
    gi_wp2
    obtain ⟨n1, n2, n3⟩ := newRow W 28 #[Value.int IntKind.i64 0, Value.bool false, Value.slice none 0 0, Value.string { data := #[] }, Value.int IntKind.i64 0, Value.slice none 0 0] #[f x 0, f x 1, f x 2, f x 3, f x 4, f x 5]
    obtain ⟨⟨S', y0, y1, y2, y3, y4, y5, q0, q9, q1, q2, q3, q4, q5⟩, q6⟩ := hi
    refine hK _ _ ⟨by omega, fun k o hk ho hc => ?_⟩ ⟨⟨rfl, rfl, rfl, by omega, fun k hk => n1 k (by omega)⟩, n1 _ (by omega)⟩ ⟨⟨S', y0, y1, y2, y3, y4, y5, by omega, by rw [n1 _ (by omega)]; exact q9, q1, q2, fun b o hb => ?_, ?_, q5⟩, ?_⟩ ⟨W.heap.size, by omega, n2, rfl⟩
    · have := (Array.getElem?_eq_some_iff.1 ho).1
      rw [n1 k this]; exact ho
    · have := (Array.getElem?_eq_some_iff.1 (q3 b o hb)).1
      rw [n1 b this]; exact q3 b o hb
    · rw [n1 _ (by omega)]; exact q4
    · exact q6.trans ⟨rfl, rfl, rfl, by omega, fun k hk => n1 k (by omega)⟩
  case body =>
    rintro l' pre x a' W hl' ⟨r, hr⟩ ⟨⟨S', y0, y1, y2, y3, y4, y5, q0, q9, q1, q2, q3, q4, q5⟩, q6⟩ ⟨Bx, b1, b2, rfl⟩ hlt
    have hBx := (Array.getElem?_eq_some_iff.1 b2).1
    have cell6 : ∀ (b : Nat) (Y : Array Value) (j : Nat) (v : Value), W.heap[b]? = some (.cells Y 28) → Y[j]? = some v → W.cell? ⟨b, j, none⟩ = some v := fun b Y j v h1 h2 => by simp [World.cell?, h1, h2]
    have x0 := cell6 Bx _ 0 (f x 0) b2 rfl
    have x1 := cell6 Bx _ 1 (f x 1) b2 rfl
    have x2 := cell6 Bx _ 2 (f x 2) b2 rfl
    have x3 := cell6 Bx _ 3 (f x 3) b2 rfl
    have x4 := cell6 Bx _ 4 (f x 4) b2 rfl
    have x5 := cell6 Bx _ 5 (f x 5) b2 rfl
    have z0 := cell6 w.heap.size _ 0 y0 q4 rfl
    have z1 := cell6 w.heap.size _ 1 y1 q4 rfl
    have z2 := cell6 w.heap.size _ 2 y2 q4 rfl
    have z3 := cell6 w.heap.size _ 3 y3 q4 rfl
    have z4 := cell6 w.heap.size _ 4 y4 q4 rfl
    have z5 := cell6 w.heap.size _ 5 y5 q4 rfl
    clear cell6
    have hwl : w.heap.size < W.heap.size := by omega
    have q4' : (W.alloc (Obj.cells #[f x 0, f x 1, f x 2, f x 3, f x 4, f x 5, y0, y1, y2, y3, y4, y5] 28)).heap[w.heap.size]? = some (.cells #[y0, y1, y2, y3, y4, y5] 28) := (Below.heap_alloc W _ _ hwl).trans q4
    have g0 : (W.alloc (Obj.cells #[f x 0, f x 1, f x 2, f x 3, f x 4, f x 5, y0, y1, y2, y3, y4, y5] 28)).cell? ⟨w.heap.size, 0, none⟩ = some y0 := by simp [World.cell?, q4']
    have f0 : (W.alloc (Obj.cells #[f x 0, f x 1, f x 2, f x 3, f x 4, f x 5, y0, y1, y2, y3, y4, y5] 28)).frozen? ⟨w.heap.size, 0, none⟩ = false := by simp [World.frozen?, q4']
    have g1 : (W.alloc (Obj.cells #[f x 0, f x 1, f x 2, f x 3, f x 4, f x 5, y0, y1, y2, y3, y4, y5] 28)).cell? ⟨w.heap.size, 1, none⟩ = some y1 := by simp [World.cell?, q4']
    have f1 : (W.alloc (Obj.cells #[f x 0, f x 1, f x 2, f x 3, f x 4, f x 5, y0, y1, y2, y3, y4, y5] 28)).frozen? ⟨w.heap.size, 1, none⟩ = false := by simp [World.frozen?, q4']
    have g2 : (W.alloc (Obj.cells #[f x 0, f x 1, f x 2, f x 3, f x 4, f x 5, y0, y1, y2, y3, y4, y5] 28)).cell? ⟨w.heap.size, 2, none⟩ = some y2 := by simp [World.cell?, q4']
    have f2 : (W.alloc (Obj.cells #[f x 0, f x 1, f x 2, f x 3, f x 4, f x 5, y0, y1, y2, y3, y4, y5] 28)).frozen? ⟨w.heap.size, 2, none⟩ = false := by simp [World.frozen?, q4']
    have g3 : (W.alloc (Obj.cells #[f x 0, f x 1, f x 2, f x 3, f x 4, f x 5, y0, y1, y2, y3, y4, y5] 28)).cell? ⟨w.heap.size, 3, none⟩ = some y3 := by simp [World.cell?, q4']
    have f3 : (W.alloc (Obj.cells #[f x 0, f x 1, f x 2, f x 3, f x 4, f x 5, y0, y1, y2, y3, y4, y5] 28)).frozen? ⟨w.heap.size, 3, none⟩ = false := by simp [World.frozen?, q4']
    have g4 : (W.alloc (Obj.cells #[f x 0, f x 1, f x 2, f x 3, f x 4, f x 5, y0, y1, y2, y3, y4, y5] 28)).cell? ⟨w.heap.size, 4, none⟩ = some y4 := by simp [World.cell?, q4']
    have f4 : (W.alloc (Obj.cells #[f x 0, f x 1, f x 2, f x 3, f x 4, f x 5, y0, y1, y2, y3, y4, y5] 28)).frozen? ⟨w.heap.size, 4, none⟩ = false := by simp [World.frozen?, q4']
    have g5 : (W.alloc (Obj.cells #[f x 0, f x 1, f x 2, f x 3, f x 4, f x 5, y0, y1, y2, y3, y4, y5] 28)).cell? ⟨w.heap.size, 5, none⟩ = some y5 := by simp [World.cell?, q4']
    have f5 : (W.alloc (Obj.cells #[f x 0, f x 1, f x 2, f x 3, f x 4, f x 5, y0, y1, y2, y3, y4, y5] 28)).frozen? ⟨w.heap.size, 5, none⟩ = false := by simp [World.frozen?, q4']
    have hfa : ∀ (V : World) (o : Obj) (j : Nat), w.heap.size < V.heap.size → (V.alloc o).frozen? ⟨w.heap.size, j, none⟩ = V.frozen? ⟨w.heap.size, j, none⟩ := fun V o j h => by simp only [World.frozen?, Below.heap_alloc V o _ h]
    have fz : ∀ j, W.frozen? ⟨w.heap.size, j, none⟩ = false := fun j => by simp [World.frozen?, q4]
    gi_wp2
    have hone : ∀ v ∈ [Value.int IntKind.i64 4, Value.bool false, Value.slice none 0 0, Value.string { data := #[] }, Value.int IntKind.i64 0, Value.slice (some { block := W.heap.size, off := 0 }) 2 2], v.oneCell' = true := by
      intro v hv
      simp only [List.mem_cons, List.not_mem_nil, or_false] at hv
      rcases hv with rfl | rfl | rfl | rfl | rfl | rfl <;> rfl
    rw [six_set W w.heap.size 28 _ _ _ _ _ _ _ _ _ _ _ _ q4 hone]
    obtain ⟨N, hN⟩ : ∃ N, (W.setRow w.heap.size #[Value.int IntKind.i64 4, Value.bool false, Value.slice none 0 0, Value.string { data := #[] }, Value.int IntKind.i64 0, Value.slice (some { block := W.heap.size, off := 0 }) 2 2]).alloc
      (Obj.cells #[f x 0, f x 1, f x 2, f x 3, f x 4, f x 5, y0, y1, y2, y3, y4, y5] 28) = N := ⟨_, rfl⟩
    have k1 : ∀ b, b < W.heap.size → b ≠ w.heap.size → N.heap[b]? = W.heap[b]? := fun b hb hne => by
      rw [← hN, Below.heap_alloc _ _ b (by simpa using hb), setRow_other _ _ _ _ hne]
    have k2 : N.heap[w.heap.size]? = some (.cells #[Value.int IntKind.i64 4, Value.bool false, Value.slice none 0 0, Value.string { data := #[] }, Value.int IntKind.i64 0, Value.slice (some { block := W.heap.size, off := 0 }) 2 2] 28) := by
      rw [← hN, Below.heap_alloc _ _ _ (by simpa using hwl), setRow_heap _ _ _ _ 28 (0, 0) q4]
    have k3 : N.heap[W.heap.size]? = some (.cells #[f x 0, f x 1, f x 2, f x 3, f x 4, f x 5, y0, y1, y2, y3, y4, y5] 28) := by
      rw [← hN]
      have := World.alloc_heap_new (W.setRow w.heap.size #[Value.int IntKind.i64 4, Value.bool false, Value.slice none 0 0, Value.string { data := #[] }, Value.int IntKind.i64 0, Value.slice (some { block := W.heap.size, off := 0 }) 2 2]) (Obj.cells #[f x 0, f x 1, f x 2, f x 3, f x 4, f x 5, y0, y1, y2, y3, y4, y5] 28)
      rwa [setRow_size] at this
    have k4 : N.heap.size = W.heap.size + 1 := by rw [← hN]; simp
    have k5 : Below w.heap.size W N := ⟨by rw [← hN]; rfl, by rw [← hN]; rfl, by rw [← hN]; rfl, by omega, fun k hk => k1 k (by omega) (by omega)⟩
    rw [hN]
    clear hN
    have hSn : S' W.heap.size = none := by
      cases hh : S' W.heap.size with
      | none => rfl
      | some o => exact absurd (Array.getElem?_eq_some_iff.1 (q3 _ o hh)).1 (Nat.lt_irrefl _)
    have hSB : ∀ b o, S' b = some o → b < W.heap.size ∧ b ≠ w.heap.size := fun b o hh => by
      refine ⟨(Array.getElem?_eq_some_iff.1 (q3 _ o hh)).1, ?_⟩
      rcases q2 b o hh with h | ⟨h, _⟩
      · have := (Array.getElem?_eq_some_iff.1 (hS b o h)).1; omega
      · omega
    have hle : SLe S' (updS S' W.heap.size (.cells #[f x 0, f x 1, f x 2, f x 3, f x 4, f x 5, y0, y1, y2, y3, y4, y5] 28)) := updS_le hSn
    refine ⟨⟨by omega, fun k o hk ho hc => ?_⟩, ⟨k5, k1 _ (by omega) (by omega)⟩, ⟨updS S' W.heap.size (.cells #[f x 0, f x 1, f x 2, f x 3, f x 4, f x 5, y0, y1, y2, y3, y4, y5] 28), _, _, _, _, _, _, by omega, by rw [k1 _ (by omega) (by omega)]; exact q9, q1.trans hle, fun b o hb => ?_, fun b o hb => ?_, k2, ?_⟩, q6.trans k5⟩
    · rw [k1 k (Array.getElem?_eq_some_iff.1 ho).1 (by omega)]; exact ho
    · unfold updS at hb
      split at hb
      · cases hb; exact .inr ⟨by omega, rfl⟩
      · exact q2 b o hb
    · unfold updS at hb
      split at hb
      · rename_i e; subst e; cases hb; exact k3
      · obtain ⟨g1, g2⟩ := hSB b o hb
        rw [k1 b g1 g2]; exact q3 b o hb
    · have hlf : listF l t (pre ++ [x]) = cons4 (lget l x) (listF l t pre) := by simp [listF]
      rw [hlf, tC_cons4]
      have hp := V_pair (S := updS S' W.heap.size (.cells #[f x 0, f x 1, f x 2, f x 3, f x 4, f x 5, y0, y1, y2, y3, y4, y5] 28)) (VLmono (q1.trans hle) (hf x)) (VLmono hle q5) rfl rfl (b := W.heap.size) (e := 28) (fr := (0, 0)) (by unfold updS; rw [if_pos rfl]; rfl)
      exact .cons (.int _ _) (.cons (.bool _) (.cons (.slnil _ _) (.cons (.str []) (.cons (.int _ _) (.cons hp .nil)))))
  case done =>
    rintro D ys W hD rfl ⟨⟨S', y0, y1, y2, y3, y4, y5, q0, q9, q1, q2, q3, q4, q5⟩, q6⟩ hK
    have cell6 : ∀ (j : Nat) (v : Value), #[y0, y1, y2, y3, y4, y5][j]? = some v → W.cell? ⟨w.heap.size, j, none⟩ = some v := fun j v h2 => by simp [World.cell?, q4, h2]
    have z0 := cell6 0 y0 rfl
    have z1 := cell6 1 y1 rfl
    have z2 := cell6 2 y2 rfl
    have z3 := cell6 3 y3 rfl
    have z4 := cell6 4 y4 rfl
    have z5 := cell6 5 y5 rfl
    clear cell6
    gi_wp2
    have ho := VL_one q5 (tC_all _)
    rw [six_store Try.prog W (w.heap.size + 1) 28 _ _ _ _ _ _ y0 y1 y2 y3 y4 y5 q9 (ho _ (by simp)) (ho _ (by simp)) (ho _ (by simp)) (ho _ (by simp)) (ho _ (by simp)) (ho _ (by simp))]
    obtain ⟨N, hN⟩ : ∃ N, W.setRow (w.heap.size + 1) #[y0, y1, y2, y3, y4, y5] = N := ⟨_, rfl⟩
    have k1 : ∀ b, b ≠ w.heap.size + 1 → N.heap[b]? = W.heap[b]? := fun b hne => by rw [← hN, setRow_other _ _ _ _ hne]
    have k2 : N.heap[w.heap.size + 1]? = some (.cells #[y0, y1, y2, y3, y4, y5] 28) := by rw [← hN, setRow_heap _ _ _ _ 28 (0, 0) q9]
    have k4 : N.heap.size = W.heap.size := by rw [← hN]; simp
    have k5 : Below w.heap.size W N := ⟨by rw [← hN]; rfl, by rw [← hN]; rfl, by rw [← hN]; rfl, by omega, fun k hk => k1 k (by omega)⟩
    rw [hN]
    clear hN
    have hK' : N.heap[D]? = some (.deferred (some [])) := (k1 D (by omega)).trans hK
    gi_wp2
    refine ⟨by simp, .inl ⟨_, _, rfl, run_takeDeferred hK', ?_⟩⟩
    obtain ⟨M, hM⟩ : ∃ M, N.putObj D (Obj.deferred none) = M := ⟨_, rfl⟩
    have m1 : ∀ b, b ≠ D → M.heap[b]? = N.heap[b]? := fun b hb => by rw [← hM]; exact World.putObj_heap_other hb
    have m5 : Below w.heap.size N M := by rw [← hM]; exact belowK_b (w := w) (Nat.le_refl _) N D _ _ (by omega) hK' rfl rfl
    rw [hM]
    have cell6 : ∀ (j : Nat) (v : Value), #[y0, y1, y2, y3, y4, y5][j]? = some v → M.cell? ⟨w.heap.size + 1, j, none⟩ = some v := fun j v h2 => by simp [World.cell?, m1 (w.heap.size + 1) (by omega), k2, h2]
    have u0 := cell6 0 y0 rfl
    have u1 := cell6 1 y1 rfl
    have u2 := cell6 2 y2 rfl
    have u3 := cell6 3 y3 rfl
    have u4 := cell6 4 y4 rfl
    have u5 := cell6 5 y5 rfl
    have hres : ∀ tmps : Array Value, tmps[4]?.getD undef = .pointer (some ⟨w.heap.size + 1, 0, none⟩) → (results Try.f84 tmps).run Try.prog M = .ok (.agg #[y0, y1, y2, y3, y4, y5]) M := by
      intro tmps ht
      simp [results, go_sem, ht, u0, u1, u2, u3, u4, u5]
    have hfin : listF l t (down len 0) = listT l t := by rw [← hl]; exact listF_all l t
    refine ⟨_, hres _ rfl, y0, y1, y2, y3, y4, y5, S', rfl, by rw [← hfin]; exact q5, q1, fun b o hb => ?_, fun b o hb => ?_, (q6.trans k5).trans m5⟩
    · rcases q2 b o hb with h | ⟨h, _⟩
      · exact .inl h
      · exact .inr (by omega)
    · have hh := q3 b o hb
      have hne : b ≠ w.heap.size + 1 := by
        rcases q2 b o hb with h | ⟨h, _⟩
        · have := (Array.getElem?_eq_some_iff.1 (hS b o h)).1; omega
        · omega
      rw [m1 b ?_, k1 b hne]
      · exact hh
      · intro e
        subst e
        rw [hK] at hh
        rcases q2 _ o hb with h | ⟨_, h⟩
        · have := (Array.getElem?_eq_some_iff.1 (hS _ o h)).1; omega
        · cases hh; cases h
  case stop =>
    rintro D c pre W _ _ h _
    exact h.elim
end Go.Proofs.Ythbbollhojdjdaa
