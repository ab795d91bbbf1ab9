/- WHAT IS PROVED: ExtBack answers true for every input of bulk at most 1048576: a term that may be is got back whole from behind other bytes, with the place behind it; cut, it is short. First the step for a term that came in. Conditions: none. -/
import Derived.Test.YthbbollhojdjdaaR0
import Derived.Test.YthbbollhojdjdaaXC
import Derived.JoinedCond
namespace Go.Proofs.Ythbbollhojdjdaa
open Go.ChangeShapes Go.WideShapes Go.ChangeAt Go.RowKit Go.Ab
set_option linter.unusedVariables false
set_option linter.unusedSimpArgs false

theorem bulk_len {H : Type} : ∀ (l : List (DataW H)), l.length ≤ Rows.uptoBulkAll l
  | [] => by simp [Rows.uptoBulkAll]
  | x :: r => by
    have h := bulk_len r
    have h1 : 1 ≤ Rows.uptoBulk x := by
      cases x with
      | lit l => cases l <;> simp [Rows.uptoBulk]
      | nil => simp [Rows.uptoBulk]
      | ptr d => simp [Rows.uptoBulk]
      | slice elems spare => simp [Rows.uptoBulk]
      | agg parts => simp [Rows.uptoBulk]
      | iface t d => simp [Rows.uptoBulk]
      | map entries => simp [Rows.uptoBulk]
      | held h => simp [Rows.uptoBulk]
    simp only [Rows.uptoBulkAll, List.length_cons]; omega

theorem addr_add (b o : Nat) (i : Nat) : (⟨b, o, none⟩ : Addr).add i = ⟨b, o + i, none⟩ := by
  unfold Addr.add; split <;> simp_all

theorem spot_none {w : World} {a : Addr} {v : Value} (h : w.cell? a = some v) : a.spot = none := by
  unfold World.cell? at h
  split at h
  · split at h
    · cases h
    · rename_i hs; simpa using hs
  · cases h

/-- Limbs that came in. -/
theorem limbs_in {H : Type} {enc : TypeId × Value → H} {w : World} {fuel : Nat} {cs : List Value} {x : DataW H × List MemPlace} (h : DataW.trod enc Try.prog w 0 (fun _ => true) true fuel 23 cs = some x) :
    ∃ (ln : Bool) (l : List UInt32) (v : Value), cs = [v] ∧ V (allS w) (.sl ln 1 (lsl l) false) v ∧ l.length + 1 ≤ Rows.uptoBulk x.1 := by
  rcases open_ints Try.underlying23 Try.underlying56 (by kernel_rfl) h with ⟨rfl, rfl⟩ | ⟨a, len, cap, zs, rfl, _, hl, hm, hz, rfl, hcell, hwz⟩
  · exact ⟨true, [], _, rfl, V.slnil 1 false, by simp [Rows.uptoBulk]⟩
  · obtain ⟨b, o, sp⟩ := a
    simp only [if_true] at hz
    have hsp : 0 < cap → sp = none := fun hc => by
      have := hcell 0 (by omega)
      have e : (⟨b, o, sp⟩ : Addr).add 0 = ⟨b, o, sp⟩ := rfl
      rw [e] at this
      exact spot_none this
    have hlen : ((zs.take len).map fun z => UInt32.ofNat z.toNat).length = len := by simp; omega
    refine ⟨false, (zs.take len).map fun z => UInt32.ofNat z.toNat, _, rfl, ?_, ?_⟩
    · have key := V.sl (S := allS w) 1 (lsl ((zs.take len).map fun z => UInt32.ofNat z.toNat)) false b o cap (fun i _ => .int .u32 (zs.getD i 0)) (by rw [lsl_length, hlen]; exact hl) (fun h => by cases h)
        (fun i hi => by simp [lsl]) (fun i j hi hj => ?_) (fun i j hi hj => ?_)
      · rw [lsl_length, hlen] at key; exact key sp hsp
      · rw [lsl_length, hlen] at hi
        have : j = 0 := by omega
        subst this
        rw [Nat.mul_one, Nat.add_zero]
        have hs := hsp (by omega)
        subst hs
        have := hcell i (by omega)
        rw [addr_add] at this
        exact allS_cell this
      · rw [lsl_length, hlen] at hi
        have hz' : i < zs.length := by omega
        have e : (lsl ((zs.take len).map fun z => UInt32.ofNat z.toNat))[i] = [.int .u32 (UInt32.ofNat (zs[i]).toNat).toNat] := by simp [lsl]
        have hj0 : j = 0 := by rw [e] at hj; simpa using hj
        subst hj0
        have hw := hwz zs[i] (List.getElem_mem hz')
        have e2 : zs.getD i 0 = zs[i] := by simp [hz']
        have e3 : (lsl ((zs.take len).map fun z => UInt32.ofNat z.toNat))[i][0] = .int .u32 zs[i] := by
          simp only [e, List.getElem_cons_zero]
          have hb : 0 ≤ zs[i] ∧ zs[i] ≤ 4294967295 := by simpa [Lit.wf, IntKind.min, IntKind.max, IntKind.signed, IntKind.bits] using hw
          congr 1
          rw [UInt32.toNat_ofNat']
          omega
        rw [e3, e2]
        exact .int _ _
    · have h1 := bulk_len (H := H) (lits .u32 (zs.take len))
      have h2 : (lits (H := H) .u32 (zs.take len)).length = len := by simp [lits]; omega
      simp only [Rows.uptoBulk]
      rw [hlen]
      omega

theorem list_choice {α : Type} {P : Nat → α → Prop} : ∀ (n : Nat), (∀ i, i < n → ∃ x, P i x) → ∃ l : List α, l.length = n ∧ ∀ i (h : i < l.length), P i l[i]
  | 0, _ => ⟨[], rfl, fun i h => by simp at h⟩
  | n + 1, h => by
    obtain ⟨l, hl, hp⟩ := list_choice n (fun i hi => h i (by omega))
    obtain ⟨x, hx⟩ := h n (by omega)
    refine ⟨l ++ [x], by simp [hl], fun i hi => ?_⟩
    by_cases hlt : i < l.length
    · rw [List.getElem_append_left hlt]; exact hp i hlt
    · have : i = l.length := by simp at hi; omega
      subst this
      simp only [List.getElem_append_right (Nat.le_refl _), Nat.sub_self, List.getElem_cons_zero]
      rw [hl]; exact hx

theorem blks_le {H : Type} : ∀ (k : List T) (es : List (DataW H × List MemPlace)), k.length = es.length → (∀ i (h1 : i < k.length) (h2 : i < es.length), blk k[i] ≤ Rows.uptoBulk es[i].1) → blks k ≤ Rows.uptoBulkAll (es.map (·.1))
  | [], [], _, _ => by simp [blks]
  | t :: k, e :: es, hl, h => by
    have h0 := h 0 (by simp) (by simp)
    have hr := blks_le k es (by simpa using hl) (fun i h1 h2 => by
      have := h (i + 1) (by simpa using h1) (by simpa using h2)
      simpa using this)
    simp only [blks, List.map_cons, Rows.uptoBulkAll]
    simp only [List.getElem_cons_zero] at h0
    omega
  | [], _ :: _, hl, _ => by simp at hl
  | _ :: _, [], hl, _ => by simp at hl

/-- A term's cells that came in. -/
def TermIn (w : World) (t : T) (cs : List Value) : Prop := cs.length = 6 ∧ ∀ j (h1 : j < (tC t).length) (h2 : j < cs.length), V (allS w) (tC t)[j] cs[j]

theorem tC_len (t : T) : (tC t).length = 6 := by rw [tC_eq]; rfl

theorem six_in {w : World} {t : T} {c0 c1 c2 c3 c4 c5 : Value} (h0 : V (allS w) (.int .i64 t.kind) c0) (h1 : V (allS w) (.bool t.neg) c1) (h2 : V (allS w) (.sl t.ln 1 (lsl t.l) false) c2)
    (h3 : V (allS w) (.str t.s) c3) (h4 : V (allS w) (.int .i64 t.n) c4) (h5 : V (allS w) (.sl t.kn 6 (tKs t.k) false) c5) : TermIn w t [c0, c1, c2, c3, c4, c5] := by
  refine ⟨rfl, fun j a b => ?_⟩
  have e := tC_eq t
  generalize tC t = L at *
  subst e
  match j, a, b with
  | 0, _, _ => exact h0
  | 1, _, _ => exact h1
  | 2, _, _ => exact h2
  | 3, _, _ => exact h3
  | 4, _, _ => exact h4
  | 5, _, _ => exact h5

set_option maxRecDepth 100000 in
theorem term_in {H : Type} {enc : TypeId × Value → H} {w : World} : ∀ (N fuel : Nat) (cs : List Value) (x : DataW H × List MemPlace), fuel ≤ N → DataW.trod enc Try.prog w 0 (fun _ => true) true fuel 28 cs = some x →
    ∃ t : T, TermIn w t cs ∧ blk t ≤ Rows.uptoBulk x.1
  | 0, fuel, cs, x, hN, h => by
    have : fuel = 0 := by omega
    subst this
    simp [DataW.trod] at h
  | N + 1, fuel, cs, x, hN, h => by
    obtain ⟨xs, n, rfl, rfl, hl, hxs, hf⟩ := DataW.trod_struct Try.underlying28 h
    have hc6 : Try.prog.cellsOf 28 = 6 := by kernel_rfl
    have hc25 : Try.prog.cellsOf 25 = 2 := by kernel_rfl
    have hc3 : Try.prog.cellsOf 3 = 1 := by kernel_rfl
    have hc9 : Try.prog.cellsOf 9 = 1 := by kernel_rfl
    have hc26 : Try.prog.cellsOf 26 = 1 := by kernel_rfl
    have hc4 : Try.prog.cellsOf 4 = 1 := by kernel_rfl
    have hc23 : Try.prog.cellsOf 23 = 1 := by kernel_rfl
    rw [hc6] at hl
    have hx5 : xs.length = 5 := hxs
    match cs, hl, xs, hx5 with
    | [c0, c1, c2, c3, c4, c5], _, [y0, y1, y2, y3, y4], _ =>
      have f0 := hf 0 _ rfl
      have f1 := hf 1 _ rfl
      have f2 := hf 2 _ rfl
      have f3 := hf 3 _ rfl
      have f4 := hf 4 _ rfl
      simp only [hc3, hc25, hc9, hc26, List.drop_zero, List.drop_succ_cons, List.take_succ_cons, List.take_zero, List.getElem?_cons_zero, List.getElem?_cons_succ] at f0 f1 f2 f3 f4
      obtain ⟨kd, e0, rfl, _⟩ := DataW.trod_int Try.underlying3 f0
      obtain ⟨nn, e3, rfl, _⟩ := DataW.trod_int Try.underlying3 f3
      obtain ⟨s, e2, rfl, _⟩ := DataW.trod_string Try.underlying9 f2
      obtain ⟨ys, n1, hn1, rfl, _, hys, hg⟩ := DataW.trod_struct Try.underlying25 f1
      have hy2 : ys.length = 2 := hys
      match ys, hy2 with
      | [z0, z1], _ =>
        have g0 := hg 0 _ rfl
        have g1 := hg 1 _ rfl
        simp only [hc4, hc23, List.drop_zero, List.drop_succ_cons, List.take_succ_cons, List.take_zero, List.getElem?_cons_zero, List.getElem?_cons_succ] at g0 g1
        obtain ⟨bb, e1, rfl⟩ := DataW.trod_bool Try.underlying4 g0
        obtain ⟨ln, l, lv, el, hV, hlb⟩ := limbs_in g1
        obtain rfl := (List.cons.inj e0).1
        obtain rfl := (List.cons.inj e1).1
        obtain rfl := (List.cons.inj e2).1
        obtain rfl := (List.cons.inj e3).1
        obtain rfl := (List.cons.inj el).1
        have hstr : V (allS w) (.str s.data.toList) (.string s) := by
          have := V.str (S := allS w) s.data.toList
          simpa using this
        have hslen : (s.data.toList).length + 1 = Rows.uptoBulk (DataW.lit (H := H) (.string s.data.toList)) := by simp [Rows.uptoBulk]
        rcases DataW.trod_slice Try.underlying26 f4 with ⟨e4, rfl⟩ | ⟨a, len, cap, elems, rest, m, hm, e4, rfl, _, hle, _, hlen, hel, hsp, _⟩
        · obtain rfl := (List.cons.inj e4).1
          refine ⟨.mk kd bb ln l s.data.toList nn true [], six_in (.int _ _) (.bool _) hV hstr (.int _ _) (V.slnil 6 false), ?_⟩
          simp only [Rows.uptoBulk, Rows.uptoBulkAll, List.map_cons, List.map_nil, blk, blks]
          omega
        · obtain rfl := (List.cons.inj e4).1
          rw [hc6] at hel hsp
          obtain ⟨hrl, hr⟩ := hsp rfl
          obtain ⟨b, o, sp⟩ := a
          have hsp0 : 0 < cap → sp = none := fun hc => by
            have key : ∃ v, w.cell? (((⟨b, o, sp⟩ : Addr).add (0 * 6)).add 0) = some v := by
              by_cases h0 : 0 < len
              · have := hel 0 h0
                rw [List.getElem?_eq_getElem (by omega), Option.bind_eq_some_iff] at this
                obtain ⟨cs', hcs, _⟩ := this
                obtain ⟨_, k1, k2⟩ := World.cells?_some hcs
                exact ⟨_, by rw [k2 0 (by omega), List.getElem?_eq_getElem (by omega)]⟩
              · have := hr 0 (by omega)
                rw [List.getElem?_eq_getElem (by omega), Option.bind_eq_some_iff] at this
                obtain ⟨cs', hcs, _⟩ := this
                rw [show len + 0 = 0 by omega] at hcs
                obtain ⟨_, k1, k2⟩ := World.cells?_some hcs
                exact ⟨_, by rw [k2 0 (by omega), List.getElem?_eq_getElem (by omega)]⟩
            obtain ⟨v, hv⟩ := key
            exact spot_none hv
          have each : ∀ i, i < len → ∃ t : T, (∀ (hi : i < elems.length), blk t ≤ Rows.uptoBulk elems[i].1) ∧ ∀ j (hj : j < (tC t).length), ∃ v, w.cell? ⟨b, o + (i * 6 + j), none⟩ = some v ∧ V (allS w) (tC t)[j] v := by
            intro i hi
            have := hel i hi
            rw [List.getElem?_eq_getElem (by omega), Option.bind_eq_some_iff] at this
            obtain ⟨cs', hcs, hy⟩ := this
            obtain ⟨t, ht, hb⟩ := term_in N m cs' _ (by omega) hy
            have hs := hsp0 (by omega)
            subst hs
            refine ⟨t, fun _ => hb, fun j hj => ?_⟩
            have hj6 : j < 6 := by rw [tC_len] at hj; exact hj
            have hcell := (World.cells?_some hcs).2.2 j hj6
            rw [addr_add, addr_add, Nat.add_assoc, List.getElem?_eq_getElem (by rw [ht.1]; exact hj6)] at hcell
            exact ⟨_, hcell, ht.2 j hj (by rw [ht.1]; exact hj6)⟩
          obtain ⟨k, hk, hP⟩ := list_choice len each
          have hkl : (tKs k).length = len := by rw [tKs_map, List.length_map, hk]
          have hke : ∀ i (hi : i < (tKs k).length) (hi' : i < k.length), (tKs k)[i] = tC k[i] := fun i hi hi' => by simp [tKs_map]
          have hVk : V (allS w) (.sl false 6 (tKs k) false) (.slice (some ⟨b, o, sp⟩) len cap) := by
            have key := V.sl (S := allS w) 6 (tKs k) false b o cap (fun i j => (w.cell? ⟨b, o + (i * 6 + j), none⟩).getD (.bool false)) (by rw [hkl]; exact hle) (fun h => by cases h)
              (fun i hi => by rw [hke i hi (by omega), tC_len]) (fun i j hi hj => ?_) (fun i j hi hj => ?_) sp hsp0
            · rw [hkl] at key; exact key
            · obtain ⟨v, hv, _⟩ := (hP i (by omega)).2 j (by rw [tC_len]; exact hj)
              rw [hv, Option.getD_some]
              exact allS_cell hv
            · have e := hke i hi (by omega)
              have hj' : j < (tC (k[i]'(by omega))).length := by rw [← e]; exact hj
              obtain ⟨v, hv, hw⟩ := (hP i (by omega)).2 j hj'
              simp only [hv, Option.getD_some]
              have e2 : (tKs k)[i][j] = (tC (k[i]'(by omega)))[j] := by simp only [e]
              rw [e2]
              exact hw
          refine ⟨.mk kd bb ln l s.data.toList nn false k, six_in (.int _ _) (.bool _) hV hstr (.int _ _) hVk, ?_⟩
          have hbl := blks_le k elems (by omega) (fun i h1 h2 => (hP i h1).1 h2)
          simp only [Rows.uptoBulk, Rows.uptoBulkAll, List.map_cons, List.map_nil, blk]
          omega
end Go.Proofs.Ythbbollhojdjdaa

namespace Go.Proofs.Ythbbollhojdjdaa.extBack
open Go.ChangeShapes Go.WideShapes Go.ChangeAt Go.RowKit Go.Ab
set_option linter.unusedVariables false

theorem own : ownKnob Try.prog.godebug = none := by kernel_rfl
theorem laidOut : laidOutB Try.prog = true := by kernel_rfl

theorem walk (t : T) (hb : blk t ≤ 1000000000) (cs : Array Value) (a0 : Option Addr) (len0 cap0 : Nat) (z0 : List Int) (w : World) (ht : TermIn w t cs.toList) (w0 : IsRow .u8 w a0 len0 cap0 z0) (hl0 : len0 ≤ 100000000) (n : Int) :
    Calls Try.prog 4 #[.agg cs, .slice a0 len0 cap0, .int .i64 n] w fun e w' => e = .returned (.bool true) ∧ Below w.heap.size w w' := by
  obtain ⟨bn, b, hbn, hl, hv⟩ := bytes_in w0
  have hT : V (allS w) (tA t) (.agg cs) := by
    have := V.agg (S := allS w) (tC t) cs.toList (by rw [tC_len, ht.1]) ht.2
    simpa [tA] using this
  refine law_calls (vs := [.agg cs, .slice a0 len0 cap0, .int .i64 n]) (fun k => ?_) (ExtBack_does t hb bn b hbn (by omega) n) w rfl (fun j h1 h2 => ?_)
  · match k with
    | 0 => rfl
    | 1 => rfl
    | 2 => rfl
    | k + 3 => rfl
  · match j, h1, h2 with
    | 0, _, _ => exact hT
    | 1, _, _ => exact hv
    | 2, _, _ => exact .int _ _

set_option maxRecDepth 100000 in
theorem contract (H : Type) (enc : TypeId × Value → H) (W : World) (base : Nat) (args : Array Value) (ds gs : List (DataW H)) (before : List MemPlace)
    (hval0 : ∀ (j : Nat) t v, Try.f4.params[j]? = some t → args[j]? = some v → Value.okWide Try.prog W .any base t v)
    (hW : DataW.Whole enc Try.prog Try.f4.params.toList Rows.extBackSpec.vars false W args.toList ds gs before) (hk : Rows.uptoSmall H (ds ++ gs) = true) :
    Calls Try.prog 4 args W fun e W' => ∃ v, e = .returned v ∧ Rows.extBackSpec.post enc Try.prog Try.f4 false true false false W args v W' := by
  have hval : ∀ (j : Nat) t v, Try.f4.params[j]? = some t → args[j]? = some v → Value.okWide Try.prog W .any base t v := hval0
  have hW' := hW
  obtain ⟨p, q, hA0, hV, rfl, hfz, hnd⟩ := hW
  have hA : DataW.TrodAll enc Try.prog W 0 (fun _ => true) true Try.f4.params.toList args.toList ds p := hA0
  rw [Try.params4] at hA hval
  obtain ⟨v0, vs0, d0, ds0, p0, q0, hargs, rfl, rfl, h0, r0⟩ := trodAll_cons hA
  obtain ⟨v1, vs1, d1, ds1, p1, q1, rfl, rfl, rfl, h1, r1⟩ := trodAll_cons r0
  obtain ⟨v2, vs2, d2, ds2, p2, q2, rfl, rfl, rfl, h2, r2⟩ := trodAll_cons r1
  obtain ⟨rfl, rfl, rfl⟩ := trodAll_nil r2
  obtain rfl : args = #[v0, v1, v2] := by cases args; simp_all
  obtain ⟨rfl, rfl⟩ := trodVars_none hV
  have hbk : Rows.uptoBulkAll ([d0, d1, d2] ++ []) ≤ 1048576 := of_decide_eq_true hk
  simp only [List.append_nil, Rows.uptoBulkAll] at hbk
  obtain ⟨n, rfl, rfl, rfl, wn⟩ := open_int Try.underlying3 (hval 2 3 v2 rfl rfl) h2
  -- the bytes
  have hv1 := hval 1 22 v1 rfl rfl
  obtain ⟨a0, len0, cap0, rfl⟩ := okWide_slice Try.underlying22 hv1
  have k1 := h1
  have lt1 : ∀ x ∈ p1, x.block < W.heap.size := by obtain ⟨m, hm⟩ := k1; exact DataW.trod_lt m _ _ _ hm
  obtain ⟨z0, w0, hl0⟩ : ∃ zs, IsRow .u8 W a0 len0 cap0 zs ∧ len0 ≤ Rows.uptoBulk d1 := by
    obtain ⟨fuel, hf⟩ := h1
    rcases open_ints Try.underlying22 Try.underlying5 (by kernel_rfl) hf with ⟨hcs, _⟩ | ⟨x, l, c, zs, hcs, _, hl, hm, hz, hx, hcell, hwz⟩
    · simp [Value.cells] at hcs
      obtain ⟨rfl, rfl, rfl⟩ := hcs
      exact ⟨[], .inl ⟨rfl, rfl, rfl, rfl⟩, Nat.zero_le _⟩
    · simp [Value.cells] at hcs
      obtain ⟨rfl, rfl, rfl⟩ := hcs
      have hsp : x.spot = none := by
        simp only [Value.okWide, Try.underlying22, Cell.okWide, Cell.ok, World.has] at hv1
        exact hv1.2.2.2.1
      obtain ⟨b, o, spot⟩ := x
      simp only at hsp
      subst hsp
      refine ⟨zs, .inr ⟨b, o, rfl, hl, hm, by simpa using hz, fun i hi => ?_, hwz⟩, ?_⟩
      · have := hcell i hi
        rw [show (⟨b, o, none⟩ : Addr).add i = ⟨b, o + i, none⟩ from by unfold Addr.add; split <;> simp_all] at this
        exact this
      · have hd1 : d1 = .slice (lits .u8 (zs.take len0)) (lits .u8 (zs.drop len0)) := congrArg Prod.fst hx
        have e1 := bulk_len (H := H) (lits .u8 (zs.take len0))
        have e2 : (lits (H := H) .u8 (zs.take len0)).length = len0 := by
          simp only [if_true] at hz
          simp [lits]; omega
        rw [hd1]
        simp only [Rows.uptoBulk]
        omega
  -- the term
  have hv0 := hval 0 28 v0 rfl rfl
  obtain ⟨cs, rfl⟩ : ∃ cs, v0 = .agg cs := by
    simp only [Value.okWide, Try.underlying28] at hv0
    obtain ⟨cs, h, _⟩ := hv0
    exact ⟨cs, h⟩
  have k0 := h0
  have lt0 : ∀ x ∈ p0, x.block < W.heap.size := by obtain ⟨m, hm⟩ := k0; exact DataW.trod_lt m _ _ _ hm
  obtain ⟨t, ht, hbt⟩ : ∃ t, TermIn W t cs.toList ∧ blk t ≤ Rows.uptoBulk d0 := by
    obtain ⟨fuel, hf⟩ := h0
    obtain ⟨t, ht, hb⟩ := term_in fuel fuel _ _ (Nat.le_refl _) hf
    exact ⟨t, ht, hb⟩
  clear hA0 hval0
  refine (walk t (by omega) cs a0 len0 cap0 z0 W ht w0 (by omega) n).mono fun e W' ⟨he, bel⟩ => ?_
  subst he
  exact ⟨_, rfl, _, _, _, [], _, [], hW', trodAll_mk1 (shut_bool Try.underlying4 _),
    (trodAll_cons_mk (Below.trod laidOut (by kernel_rfl) (of_decide_eq_true (by kernel_rfl)) k0 bel lt0) (trodAll_cons_mk (Below.trod laidOut (by kernel_rfl) (of_decide_eq_true (by kernel_rfl)) k1 bel lt1) (trodAll_cons_mk (shut_int Try.underlying3 wn) trodAll_mk0))), rfl, bel.frame _, fun h => by cases h⟩

set_option maxRecDepth 100000 in
theorem lifted (os : Os) (started : os.Started) (H : Type) (enc : TypeId × Value → H) (F : Stop.Interp) :
    ReturnsInHanded {} Try.checked os 4 .any ((Rows.OpenSpec.upto Rows.extBackSpec).pre6 enc Try.prog Try.f4 Rows.extBackUptoRow.domain false) (((Rows.OpenSpec.upto Rows.extBackSpec).at F).post enc Try.prog Try.f4 false true false false) := by
  refine returnsInHanded_of_cond (C := Try.checked) (s := Rows.OpenSpec.upto Rows.extBackSpec) (k := Rows.uptoSmall) rfl own started (by kernel_rfl) Try.func4
    (OpenSpec.witness (enc := enc) (C := Try.checked) (s := Rows.OpenSpec.upto Rows.extBackSpec) (k := Rows.uptoSmall) rfl false ⟨#[], #[.agg #[.int .i64 0, .bool false, .slice none 0 0, .string ⟨#[]⟩, .int .i64 0, .slice none 0 0], .slice none 0 0, .int .i64 0], []⟩ 8 (by kernel_rfl) (by kernel_rfl) (by kernel_rfl)
      (x := ([.agg [.lit (.int .i64 0), .agg [.lit (.bool false), .nil], .lit (.string []), .lit (.int .i64 0), .nil], .nil, .lit (.int .i64 0)], [], [])) (by kernel_rfl) rfl (by kernel_rfl)) ?_
  intro W base args ds gs before hval hW _ hk _
  exact contract H enc W base args ds gs before hval hW hk

theorem over : Rows.extBackUptoRow.holds Try.pinned (Rows.OpenSpec.upto Rows.extBackSpec) :=
  OpenClaim.holds_of_cond 4 Try.f4 rfl rfl rfl rfl rfl rfl rfl ⟨rfl, rfl, rfl, rfl, rfl⟩ rfl rfl rfl rfl rfl (by kernel_rfl) Try.func4 (by kernel_rfl)
    (of_decide_eq_true (by kernel_rfl)) (by unfold Func.isWrapper; first | (rw [if_pos (by decide +kernel)]; kernel_rfl) | (rw [if_neg (by decide +kernel)]; exact ⟨rfl, rfl⟩))
    (fun os started H enc _ F => lifted os started H enc F)

theorem proved : Rows.ExtBackUptoSaid := over
#print axioms proved
end Go.Proofs.Ythbbollhojdjdaa.extBack
namespace Go.Proofs.Ythbbollhojdjdaa
/-- The row, under a short name, for the claim. -/
theorem extBack_holds : Rows.ExtBackUptoSaid := extBack.proved
end Go.Proofs.Ythbbollhojdjdaa
