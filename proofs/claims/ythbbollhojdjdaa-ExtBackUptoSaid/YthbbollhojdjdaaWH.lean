/- WALKS, 17: the reader: a term, the walk. Conditions: the place lies in the bytes. -/
import Derived.Test.YthbbollhojdjdaaWG
namespace Go.Proofs.Ythbbollhojdjdaa
open Go.Ab
set_option maxRecDepth 100000
set_option linter.unusedSimpArgs false
set_option linter.unusedVariables false

/-- What reading a term does (where the bytes left are fewer than m). -/
def TermSpec (m : Nat) : Prop := ∀ (bn : Bool) (B : List UInt8), (bn = true → B = []) → B.length ≤ 1000000000 → ∀ (deep : Int), 1 ≤ deep → deep ≤ 61 → ∀ (pos : Nat) (terms : Int), pos ≤ B.length → 0 ≤ terms → terms ≤ 2000 → B.length < pos + m →
  CallsA Try.prog 31 [.ref (.arg 0) 0, .int .i64 deep] [some ⟨rdC bn B pos terms 0, true⟩, none] (TermQ [none] bn B (rTerm B m deep pos terms))

theorem term_e (bn : Bool) (B : List UInt8) (pos : Nat) (terms e deep : Int) (he : ¬ e = 0) :
    FDoes Try.prog 31 [.ref (.arg 0) 0, .int .i64 deep] [some ⟨rdC bn B pos terms e, true⟩, none] [.v (tA T0)] [some ⟨rdC bn B pos terms e, true⟩, none] none := by
  refine FDoes.of (E := env) ttok mixed Try.func31 (by kernel_rfl) rfl (by kernel_rfl) (rl := [.cell 4 28]) rfl (Nat.le_of_ble_eq_true rfl) false ?_
  simp only [go_sem, W_cond, W_block, rdC]
  have hc := take_e (bn := bn) (B := B) (pos := pos) (terms := terms) he 1
  try simp only [go_sem, List.length_append, rdC] at hc
  refine WCallR_does hc (by rfl) (by rfl) ?_
  clear hc
  simp only [go_sem, W_cond, W_block, he]
  rw [tA, tC_T0]

theorem CallsA.weak {P : Program} {f : FuncId} {args : List AV} {objs : List (Option Ob)} {Q Q' : List RV → List (Option Ob) → Option Ob → Prop} (h : CallsA P f args objs Q) (hq : ∀ a b c, Q a b c → ∃ a', SubR a a' ∧ Q' a' b c) : CallsA P f args objs Q' := by
  refine ⟨h.1, fun w S ι vs h1 h2 h3 h4 h5 => (h.2 w S ι vs h1 h2 h3 h4 h5).mono ?_⟩
  rintro e w' ⟨a, b, c, S', ι', v, hQ, he, ⟨ws, k1, k2, k3⟩, rest⟩
  obtain ⟨a', hs, hQ'⟩ := hq a b c hQ
  exact ⟨a', b, c, S', ι', v, hQ', he, ⟨ws, by rw [k1, hs.length], fun i g1 g2 => hs.get i (by rw [hs.length]; exact g1) g1 _ (k2 i (by rw [hs.length]; exact g1) g2), k3⟩, rest⟩

def SomeQ0 (bn : Bool) (B : List UInt8) (r : Except Int (List T × Nat × Int)) : List RV → List (Option Ob) → Option Ob → Prop :=
  fun rs objs' ex => ∃ (l : List T) (pos' : Nat) (terms' e' : Int), (l = [] ∧ rs = [.v (.sl true 0 [] true)] ∨ l ≠ [] ∧ rs = [.v (.sl false 6 (tKs l) false)]) ∧ objs' = [some ⟨rdC bn B pos' terms' e', true⟩, none, none] ∧ ex = none ∧ l.length ≤ 2000 ∧ Res r (l, pos', terms') e'
def SomeQ (bn : Bool) (B : List UInt8) (r : Except Int (List T × Nat × Int)) : List RV → List (Option Ob) → Option Ob → Prop :=
  fun rs objs' ex => ∃ (kn : Bool) (l : List T) (pos' : Nat) (terms' e' : Int), rs = [.v (.sl kn 6 (tKs l) false)] ∧ objs' = [some ⟨rdC bn B pos' terms' e', true⟩, none, none] ∧ ex = none ∧ l.length ≤ 2000 ∧ kn = emp l ∧ Res r (l, pos', terms') e'

theorem some_zero (bn : Bool) (B : List UInt8) (pos : Nat) (terms e deep : Int) :
    FDoes Try.prog 57 [.ref (.arg 0) 0, .int .i64 0, .int .i64 deep] [some ⟨rdC bn B pos terms e, true⟩, none, none] [.v (.sl true 6 [] false)] [some ⟨rdC bn B pos terms e, true⟩, none, none] none := by
  refine FDoes.weak (rs := [.v (.sl true 0 [] true)]) ?_ (.v (.nil _ _ _ _) .nil)
  refine FDoes.of (E := env) ttok mixed Try.func57 (by kernel_rfl) rfl (by kernel_rfl) (rl := [.tmp 6]) rfl (Nat.le_of_ble_eq_true rfl) false ?_
  simp only [go_sem, W_cond, W_block, rdC]
  refine W_loop (fun (i : Nat) st => st.tm 0 = .ref (.arg 0) 0 ∧ st.tm 7 = .sl true 0 [] true ∧ st.tm 9 = .int .i64 0 ∧ st.tm 10 = .int .i64 0 ∧
    st.hp (.arg 0) = some ⟨[.sl bn 1 (bsl B) false, .int .i64 (pos : Nat), .int .i64 terms, .int .i64 e], true⟩ ∧ st.hp (.arg 1) = none ∧ st.hp (.arg 2) = none) (fun i => i) 0 ?_ ?_
  · simp only [go_sem, W_cond, W_block]
  · rintro i tm hp clk ⟨g0, g7, g9, g10, hr, h1, h2⟩
    replace g0 : tm 0 = _ := g0
    replace g7 : tm 7 = _ := g7
    replace g9 : tm 9 = _ := g9
    replace g10 : tm 10 = _ := g10
    replace hr : hp (.arg 0) = _ := hr
    replace h1 : hp (.arg 1) = _ := h1
    replace h2 : hp (.arg 2) = _ := h2
    simp only [go_sem, W_cond, W_block, g0, g7, g9, g10, hr, h1, h2]

theorem chunk_flat : ∀ (k : List T), chunk 6 k.length (flat k) = tKs k
  | [] => by rw [tKs]; rfl
  | t :: k => by
    have := chunk_flat k
    have e : flat (t :: k) = tC t ++ flat k := by simp [flat]
    rw [List.length_cons, chunk, e, List.take_left' (tC_length t), List.drop_left' (tC_length t), this, tKs]

/-- Those in front. -/
def pre (l : List T) : Except Int (List T × Nat × Int) → Except Int (List T × Nat × Int)
  | .ok (r, p, k) => .ok (l ++ r, p, k)
  | .error c => .error c

theorem hpre_app (l : List T) (t : T) (r : Except Int (List T × Nat × Int)) : pre l (match r with | .error c => .error c | .ok (l', p', k') => .ok (t :: l', p', k')) = pre (l ++ [t]) r := by
  cases r with
  | error c => rfl
  | ok b => obtain ⟨a, b, c⟩ := b; simp [pre]

theorem some_does0 (m : Nat) (IH : TermSpec m) (bn : Bool) (B : List UInt8) (hbn : bn = true → B = []) (hB : B.length ≤ 1000000000) (deep : Int) (hd1 : 1 ≤ deep) (hd2 : deep ≤ 61) (n : Nat) (hn : n ≤ 2000) (pos0 : Nat) (terms0 : Int) (hp0 : pos0 ≤ B.length)
    (ht1 : 0 ≤ terms0) (ht2 : terms0 ≤ 2000) (hm : B.length < pos0 + m) :
    CallsA Try.prog 57 [.ref (.arg 0) 0, .int .i64 n, .int .i64 deep] [some ⟨rdC bn B pos0 terms0 0, true⟩, none, none] (SomeQ0 bn B (rSome (rTerm B m deep) n pos0 terms0)) := by
  refine CallsA.of (E := env) ttok mixed Try.func57 (by kernel_rfl) rfl (by kernel_rfl) (rl := [.tmp 6]) rfl (Nat.le_of_ble_eq_true rfl) false ?_
  simp only [go_sem, W_cond, W_block, rdC]
  refine W_loop (fun (p : List T × Nat × Int) st => p.1.length ≤ n ∧ pos0 ≤ p.2.1 ∧ p.2.1 ≤ B.length ∧ 0 ≤ p.2.2 ∧ p.2.2 ≤ 2000 ∧ rSome (rTerm B m deep) n pos0 terms0 = pre p.1 (rSome (rTerm B m deep) (n - p.1.length) p.2.1 p.2.2) ∧
    st.tm 0 = .ref (.arg 0) 0 ∧ st.tm 2 = .int .i64 deep ∧ st.tm 9 = .int .i64 n ∧ st.tm 10 = .int .i64 p.1.length ∧
    st.hp (.arg 0) = some ⟨[.sl bn 1 (bsl B) false, .int .i64 (p.2.1 : Nat), .int .i64 p.2.2, .int .i64 0], true⟩ ∧ st.hp (.arg 1) = none ∧ st.hp (.arg 2) = none ∧
    (p.1 = [] ∧ st.tm 7 = .sl true 0 [] true ∨ p.1 ≠ [] ∧ ∃ c, st.tm 7 = .arr (.loc 23 3 c) 0 p.1.length 6 ∧ st.hp (.loc 23 3 c) = some ⟨flat p.1, true⟩)) (fun p => n - p.1.length) ([], pos0, terms0) ?_ ?_
  · simp only [go_sem, W_cond, W_block, List.length_nil, Nat.sub_zero]
    refine ⟨hp0, ht1, ht2, ?_⟩
    cases rSome (rTerm B m deep) n pos0 terms0 with
    | ok b => rfl
    | error c => rfl
  · rintro ⟨l, pos, terms⟩ tm hp clk ⟨q1, q2, q3, q4, q5, q6, g0, g2, g9, g10, hr, h1, h2, g7⟩
    replace g0 : tm 0 = _ := g0
    replace g2 : tm 2 = _ := g2
    replace g9 : tm 9 = _ := g9
    replace g10 : tm 10 = _ := g10
    replace hr : hp (.arg 0) = _ := hr
    replace h1 : hp (.arg 1) = _ := h1
    replace h2 : hp (.arg 2) = _ := h2
    simp only at q1 q2 q3 q4 q5 q6 g10 hr g7
    have htk : (flat l).take (l.length * 6) = flat l := by rw [← flat_length, List.take_length]
    have hch := chunk_flat l
    by_cases hlt : l.length < n
    · have hlt' : (l.length : Int) < (n : Int) := by omega
      have hw : IntKind.i64.wrap ((l.length : Int) + 1) = ((l.length + 1 : Nat) : Int) := by rw [wrap64_id _ (by omega) (by omega)]; omega
      have hcall := IH bn B hbn hB deep hd1 hd2 pos terms q3 q4 q5 (by omega)
      simp only [rdC] at hcall
      have hn1 : n - l.length = (n - (l.length + 1)) + 1 := by omega
      rw [hn1, rSome] at q6
      have hbnd : (l.length + 1) * 88 ≤ 140737488355328 := by omega
      simp only [go_sem, W_cond, W_block, g0, g2, g9, g10, hr, hlt']
      refine WCallR_any hcall (by rfl) (by rfl) ?_
      rintro _ _ _ ⟨t, pos', terms', e', rfl, rfl, rfl, hres⟩
      rw [rdC]
      cases hx : rTerm B m deep pos terms with
      | error c =>
        rw [hx] at hres q6
        obtain ⟨rfl, hc⟩ := hres
        simp only [pre] at q6
        rcases g7 with ⟨hl0, g7⟩ | ⟨hl0, c, g7, g8⟩
        · replace g7 : tm 7 = _ := g7
          subst hl0
          simp only [go_sem, W_cond, W_block, g0, g2, g7, g9, g10, hr, h1, h2, hc, tA_eq]
          exact ⟨[], pos', terms', e', .inl ⟨rfl, rfl⟩, rfl, rfl, by simp, by rw [q6]; exact ⟨rfl, hc⟩⟩
        · replace g7 : tm 7 = _ := g7
          replace g8 : hp (.loc 23 3 c) = _ := g8
          simp only [go_sem, W_cond, W_block, g0, g2, g7, g8, g9, g10, hr, h1, h2, hc, tA_eq, htk, hch]
          exact ⟨l, pos', terms', e', .inr ⟨hl0, rfl⟩, rfl, rfl, by omega, by rw [q6]; exact ⟨rfl, hc⟩⟩
      | ok b =>
        obtain ⟨t', p', k'⟩ := b
        rw [hx] at hres q6
        obtain ⟨heq, rfl⟩ := hres
        cases heq
        obtain ⟨v1, v2, v3, v4⟩ := rTerm_bnd m deep pos terms t pos' terms' q3 q4 q5 hx
        simp only at q6
        rcases g7 with ⟨hl0, g7⟩ | ⟨hl0, c, g7, g8⟩
        · replace g7 : tm 7 = _ := g7
          subst hl0
          simp only [go_sem, W_cond, W_block, g0, g2, g7, g9, g10, hr, h1, h2, tA_eq]
          refine ⟨([t], pos', terms'), ⟨hlt, by show pos0 ≤ pos'; omega, by show pos' ≤ _; omega, by show 0 ≤ terms'; omega, by show terms' ≤ 2000; omega, ?_, rfl, rfl, by simp, clk + 1 + 1 + 1, rfl, by simp [flat, tC_eq]⟩, by simp only [List.length_cons, List.length_nil]; simp only [List.length_nil] at hlt; omega⟩
          exact q6.trans (hpre_app [] t _)
        · replace g7 : tm 7 = _ := g7
          replace g8 : hp (.loc 23 3 c) = _ := g8
          simp only [go_sem, W_cond, W_block, g0, g2, g7, g8, g9, g10, hr, h1, h2, hbnd, hw, tA_eq]
          refine ⟨(l ++ [t], pos', terms'), ⟨by simp; omega, by show pos0 ≤ pos'; omega, by show pos' ≤ _; omega, by show 0 ≤ terms'; omega, by show terms' ≤ 2000; omega, ?_, by simp, rfl, by simp, clk + 1 + 1 + 1, by simp, by simp [flat_snoc, tC_eq]⟩, by simp; omega⟩
          rw [List.length_append]
          exact q6.trans (hpre_app l t _)
    · have hlt' : ¬ (l.length : Int) < (n : Int) := by omega
      have hn0 : n - l.length = 0 := by omega
      rw [hn0, rSome, pre] at q6
      rcases g7 with ⟨hl0, g7⟩ | ⟨hl0, c, g7, g8⟩
      · replace g7 : tm 7 = _ := g7
        subst hl0
        have hlt0 : ¬ (0 : Int) < (n : Int) := hlt'
        simp only [go_sem, W_cond, W_block, g0, g2, g7, g9, g10, hr, h1, h2, hlt0]
        exact ⟨[], pos, terms, 0, .inl ⟨rfl, rfl⟩, rfl, rfl, by simp, by rw [q6]; exact ⟨rfl, rfl⟩⟩
      · replace g7 : tm 7 = _ := g7
        replace g8 : hp (.loc 23 3 c) = _ := g8
        simp only [go_sem, W_cond, W_block, g0, g2, g7, g8, g9, g10, hr, h1, h2, hlt', htk, hch]
        exact ⟨l, pos, terms, 0, .inr ⟨hl0, rfl⟩, rfl, rfl, by omega, by rw [q6]; exact ⟨by simp, rfl⟩⟩

theorem some_does (m : Nat) (IH : TermSpec m) (bn : Bool) (B : List UInt8) (hbn : bn = true → B = []) (hB : B.length ≤ 1000000000) (deep : Int) (hd1 : 1 ≤ deep) (hd2 : deep ≤ 61) (n : Nat) (hn : n ≤ 2000) (pos0 : Nat) (terms0 : Int) (hp0 : pos0 ≤ B.length)
    (ht1 : 0 ≤ terms0) (ht2 : terms0 ≤ 2000) (hm : B.length < pos0 + m) :
    CallsA Try.prog 57 [.ref (.arg 0) 0, .int .i64 n, .int .i64 deep] [some ⟨rdC bn B pos0 terms0 0, true⟩, none, none] (SomeQ bn B (rSome (rTerm B m deep) n pos0 terms0)) := by
  refine CallsA.weak (some_does0 m IH bn B hbn hB deep hd1 hd2 n hn pos0 terms0 hp0 ht1 ht2 hm) ?_
  rintro a b c ⟨l, pos', terms', e', h, h2, h3, h4, h5⟩
  rcases h with ⟨rfl, rfl⟩ | ⟨hl, rfl⟩
  · exact ⟨[.v (.sl true 6 (tKs []) false)], .v (SubV.nil _ _ _ _) .nil, true, [], pos', terms', e', rfl, h2, h3, h4, rfl, h5⟩
  · exact ⟨_, .same .nil, false, l, pos', terms', e', rfl, h2, h3, h4, (emp_false hl).symm, h5⟩
end Go.Proofs.Ythbbollhojdjdaa
