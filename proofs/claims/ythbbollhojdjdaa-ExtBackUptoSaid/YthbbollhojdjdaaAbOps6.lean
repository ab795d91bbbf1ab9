/- THE ABSTRACT MACHINE, 8: append and copy. Conditions: the table of types is the program's. -/
import Derived.Test.YthbbollhojdjdaaAbOps5
import Derived.Lib.Strings
namespace Go.Ab
set_option linter.unusedSimpArgs false

def notInt (d : TypeDesc) : Prop := d = .string ∨ ∃ e, d = .slice e

section
variable {P : Program} {tt : TypeId → Option TI} (hT : TTok P tt)
include hT

theorem newsA_ok {S : SM} {ι : NM} {hp : HP} {w : World} (hr : HR S ι hp w) {tx : TypeId} {size m : Nat} {x : AV} {news : List AV} (h0 : 0 < size) (hv : newsA tt tx size x hp = some (m, news)) {xv : Value} (hx : VT S ι x xv) :
    (∃ d, P.underlying tx = some d ∧ notInt d) ∧ news.length = m * size ∧ ∃ vs : List Value, vs.length = news.length ∧ (∀ j (h1 : j < news.length) (h2 : j < vs.length), VT S ι news[j] vs[j]) ∧
      ∀ w' : World, w'.heap = w.heap → (Builtin.lenOf xv).run P w' = .ok m w' ∧ ∀ n, n ≤ m → (Builtin.firstCells size n xv).run P w' = .ok (vs.take (n * size)).toArray w' := by
  unfold newsA at hv
  cases ht : tt tx with
  | none => rw [ht] at hv; cases hv
  | some ti =>
    rw [ht] at hv
    simp only at hv
    obtain ⟨d, hd, hdo⟩ := (hT tx ti ht).under
    split at hv
    · rename_i e n sz es full he
      rw [he] at hdo
      simp only [descOk] at hdo
      subst hdo
      refine ⟨⟨_, hd, .inr ⟨_, rfl⟩⟩, ?_⟩
      split at hv
      · rename_i hc
        cases hv
        rcases hx.sl_inv with ⟨rfl, rfl, rfl⟩ | ⟨rfl, b, o, sp, cap, f, rfl, h6, h1, h2, h3, h4, h5⟩
        · refine ⟨by simp, [], by simp, fun j h1 => by simp at h1, fun w' _ => ⟨by simp [Builtin.lenOf], fun n hn => ?_⟩⟩
          simp [Builtin.firstCells]
        · have hsz : sz = size := by simpa using hc
          subst hsz
          by_cases hcp : 0 < cap
          · obtain rfl := h6 hcp
            have hfl := flatten_length es h3
            obtain ⟨vs, g1, g2, g3⟩ := (CellsAt.sl (ι := ι) hr h0 h3 h4 h5).load (P := P)
            refine ⟨hfl, vs, g1, g2, fun w' hw' => ⟨by simp [Builtin.lenOf], fun n hn => ?_⟩⟩
            have := g3 (n * sz) (by rw [hfl]; exact Nat.mul_le_mul_right _ hn) w' hw'
            simp only [Builtin.firstCells, this]
          · have he0 : es = [] := List.eq_nil_of_length_eq_zero (by omega)
            subst he0
            refine ⟨by simp, [], by simp, fun j h1 => by simp at h1, fun w' _ => ⟨by simp [Builtin.lenOf], fun n hn => ?_⟩⟩
            have hn0 : n = 0 := by simpa using hn
            subst hn0
            simp [Builtin.firstCells, loadCells, loadCellsFrom]
      · cases hv
    · rename_i e nm off len sz he
      rw [he] at hdo
      simp only [descOk] at hdo
      subst hdo
      refine ⟨⟨_, hd, .inr ⟨_, rfl⟩⟩, ?_⟩
      split at hv
      · rename_i hsz
        subst hsz
        cases ho : hp nm with
        | none => rw [ho] at hv; cases hv
        | some ob =>
          rw [ho] at hv
          simp only [arrCells] at hv
          split at hv
          · rename_i hc
            obtain ⟨c1, c2⟩ := hc
            simp only [Option.map_some, Option.some.injEq, Prod.mk.injEq] at hv
            obtain ⟨rfl, rfl⟩ := hv
            obtain ⟨l, o, cap, q1, rfl, q3, q4, q5⟩ := hx.arr_inv
            have hlen : ((ob.cs.drop off).take (len * sz)).length = len * sz := by simp; omega
            have hc0 := ((hr.cellsAt ho q1).drop off).take (len * sz)
            rw [Nat.zero_add] at hc0
            obtain ⟨vs, g1, g2, g3⟩ := hc0.load (P := P)
            refine ⟨hlen, vs, g1, g2, fun w' hw' => ⟨by simp [Builtin.lenOf], fun n hn => ?_⟩⟩
            by_cases hcap : 0 < cap
            · have := q5 hcap; subst this
              have := g3 (n * sz) (by rw [hlen]; exact Nat.mul_le_mul_right _ hn) w' hw'
              simp only [Builtin.firstCells, this]
            · have : n = 0 := by omega
              subst this
              simp [Builtin.firstCells, loadCells, loadCellsFrom]
          · cases hv
      · cases hv
    · rename_i l he
      rw [he] at hdo
      simp only [descOk] at hdo
      subst hdo
      refine ⟨⟨_, hd, .inl rfl⟩, ?_⟩
      split at hv
      · rename_i hsz
        subst hsz
        cases hv
        have := hx.str_inv; subst this
        refine ⟨by simp, l.map fun b => .int .u8 b.toNat, by simp, fun j h1 h2 => ?_, fun w' _ => ⟨by simp [Builtin.lenOf, ByteArray.size], fun n hn => ?_⟩⟩
        · simp only [List.getElem_map, ofByte]
          exact .v (.int _ _)
        · simp only [Builtin.firstCells, Sem.run_pure, Nat.mul_one]
          congr 1
          have he : ((⟨l.toArray⟩ : ByteArray).extract 0 n).data = (l.take n).toArray := by
            apply Array.ext'
            rw [Lib.extract_data]
            simp
          rw [he]
          simp
      · cases hv
    · cases hv


omit hT in
/-- append, where there is room. -/
theorem run_append_fit {w : World} {t tx ty e : TypeId} {i : TypeInfo} {d : TypeDesc} (ht : P.underlying t = some (.slice e)) (hi : P.info? e = some i) (htx : P.underlying tx = some d) (hd : notInt d)
    {xv : Value} {m : Nat} {news : List Value} (hlen : (Builtin.lenOf xv).run P w = .ok m w) (hnews : (Builtin.firstCells i.size m xv).run P w = .ok news.toArray w)
    {b o sLen sCap : Nat} {c : Array Value} {e' : TypeId} (hg : w.heap[b]? = some (.cells c e' (0, 0))) (h1 : ∀ u ∈ news, u.oneCell' = true) (hroom : sLen + m ≤ sCap) (hfit : o + sLen * i.size + news.length ≤ c.size) :
    (Builtin.append_ #[t, tx] ty #[.slice (some ⟨b, o, none⟩) sLen sCap, xv]).run P w = .ok (.slice (some ⟨b, o, none⟩) (sLen + m) sCap) (w.setRow b (overV c (o + sLen * i.size) news)) := by
  have hst := run_storeCells_at (P := P) b (o + sLen * i.size) e' news 0 c w hg (by omega) h1
  simp only [Nat.add_zero] at hst
  rcases hd with rfl | ⟨e2, rfl⟩
  all_goals simp [Builtin.append_, run_underlying ht, run_underlying htx, sizeOf, typeInfo, hi, hlen, hroom, hnews, addr_add, hst, overV]

omit hT in
/-- append, where there is none. -/
theorem run_append_new {w : World} {t tx ty e : TypeId} {i : TypeInfo} {d : TypeDesc} {z : Value} (ht : P.underlying t = some (.slice e)) (hi : P.info? e = some i) (hz : i.zero = some z) (htx : P.underlying tx = some d) (hd : notInt d)
    {xv : Value} {m : Nat} {news olds : List Value} (hlen : (Builtin.lenOf xv).run P w = .ok m w) (hnews : (Builtin.firstCells i.size m xv).run P w.drew = .ok news.toArray w.drew)
    {base : Option Addr} {sLen sCap : Nat} (holds : (Builtin.firstCells i.size sLen (.slice base sLen sCap)).run P w.drew = .ok olds.toArray w.drew)
    (hg : sCap < sLen + m) (h0 : 0 < i.bytes) (hfit : (sLen + m) * i.bytes ≤ 140737488355328) :
    (Builtin.append_ #[t, tx] ty #[.slice base sLen sCap, xv]).run P w = .ok (.slice (some ⟨w.heap.size, 0, none⟩) (sLen + m) (grownCap w (sLen + m) sCap e))
        (w.drew.alloc (.cells ((olds ++ news).toArray ++ Builtin.zeroCells z.cells (grownCap w (sLen + m) sCap e - (sLen + m))) e)) := by
  have hn : ¬ (sLen + m ≤ sCap) := by omega
  have h48 := growslice_fits (need := sLen + m) (old := sCap) hg hfit
  have h48' : ¬ (281474976710656 < Builtin.nextslicecap (sLen + m) sCap * i.bytes) := by omega
  have hb0 : ¬ (i.bytes = 0) := by omega
  rcases hd with rfl | ⟨e2, rfl⟩
  all_goals simp [Builtin.append_, run_underlying ht, run_underlying htx, sizeOf, typeInfo, zeroValue, hi, hz, hlen, hn, hb0, h48', Question.forced, hnews, holds, newRow, grownCap]
  all_goals (congr 2; apply Array.ext'; simp)


theorem appendA_ok {fresh : Nm} {S : SM} {ι : NM} {hp : HP} {w : World} (hr : HR S ι hp w) (hf : ι fresh = none) {t tx ty : TypeId} {s x v : AV} {ch : Ch} (hv : appendA tt t tx fresh s x hp = some (v, ch)) {sv xv : Value} (hs : VT S ι s sv) (hx : VT S ι x xv) :
    ∃ val ι' w', (Builtin.append_ #[t, tx] ty #[sv, xv]).run P w = .ok val w' ∧ VT S ι' v val ∧ Mv fresh S ι hp w S ι' (chg hp ch) w' := by
  unfold appendA at hv
  cases ht : tt t with
  | none => rw [ht] at hv; cases hv
  | some ti =>
    rw [ht] at hv
    simp only at hv
    obtain ⟨d, hd, hdo⟩ := (hT t ti ht).under
    split at hv
    rotate_left
    · cases hv
    rename_i e he
    rw [he] at hdo
    simp only [descOk] at hdo
    subst hdo
    cases hte : tt e with
    | none => rw [hte] at hv; cases hv
    | some te =>
      rw [hte] at hv
      simp only at hv
      cases hn : newsA tt tx te.size x hp with
      | none => rw [hn] at hv; cases hv
      | some mn =>
        obtain ⟨m, news⟩ := mn
        rw [hn] at hv
        simp only at hv
        split at hv
        · cases hv
        rename_i hc
        simp only [not_or, Bool.not_eq_false] at hc
        obtain ⟨c1, c2, c3⟩ := hc
        obtain ⟨info, z, k1, k2, k3, k4, k5, _⟩ := (hT e te hte).info
        obtain ⟨⟨dx, hdx, hni⟩, hnl, vs, e1, e2, e3⟩ := newsA_ok hT hr (by omega) hn hx
        have hone := VT.one_all e1.symm e2 c3
        have hvl : vs.length = m * info.size := by rw [e1, hnl, k2]
        have hfull : vs.take (m * te.size) = vs := List.take_of_length_le (by rw [e1, hnl]; exact Nat.le_refl _)
        have hlenw := (e3 w rfl).1
        have hnews : ∀ w' : World, w'.heap = w.heap → (Builtin.firstCells info.size m xv).run P w' = .ok vs.toArray w' := by
          intro w' hw'
          have := (e3 w' hw').2 m (Nat.le_refl _)
          rw [hfull] at this
          rw [k2]; exact this
        -- a new row: the old cells, the new ones, zeros
        have fresh_new : ∀ (olds : List AV) (ov : List Value) (base : Option Addr) (sLen sCap : Nat), olds.length = ov.length → olds.length = sLen * te.size →
            (∀ i (hi : i < olds.length) (hj : i < ov.length), VT S ι olds[i] ov[i]) →
            (Builtin.firstCells info.size sLen (.slice base sLen sCap)).run P w.drew = .ok ov.toArray w.drew → sCap < sLen + m → (sLen + m) * te.bytes ≤ 140737488355328 →
            ∃ val ι' w', (Builtin.append_ #[t, tx] ty #[.slice base sLen sCap, xv]).run P w = .ok val w' ∧ VT S ι' (.arr fresh 0 (sLen + m) te.size) val ∧
              Mv fresh S ι hp w S ι' (updH hp fresh (some ⟨olds ++ news, true⟩)) w' := by
          intro olds ov base sLen sCap g1 g2 g3 g4 g5 g6
          have hrun := run_append_new (P := P) (ty := ty) hd k1 k4 hdx hni hlenw (hnews w.drew rfl) g4 g5 (by rw [k3]; omega) (by rw [k3]; exact g6)
          have hge := grownCap_ge w (sLen + m) sCap e
          have hcs : ((ov ++ vs).toArray ++ Builtin.zeroCells z.cells (grownCap w (sLen + m) sCap e - (sLen + m))).size = grownCap w (sLen + m) sCap e * te.size := by
            simp only [Array.size_append, List.size_toArray, List.length_append, size_zeroCells, k5, ← g1, g2, e1, hnl, ← Nat.add_mul]
            congr 1; omega
          refine ⟨_, updN ι fresh ⟨w.heap.size, grownCap w (sLen + m) sCap e * te.size⟩, _, hrun, ?_, ?_⟩
          · exact .arr fresh 0 (sLen + m) te.size ⟨w.heap.size, grownCap w (sLen + m) sCap e * te.size⟩ 0 _ (by simp [updN]) hge (by simp) (fun _ => rfl)
          · have hm := Mv.alloc (w := w.drew) (hr.same rfl) fresh (olds ++ news) ((ov ++ vs).toArray ++ Builtin.zeroCells z.cells (grownCap w (sLen + m) sCap e - (sLen + m))) e hf
              (by simp only [Array.size_append, List.size_toArray, List.length_append]; omega) (by
                intro i hi hj
                have hi2 : i < (ov ++ vs).toArray.size := by simp only [List.size_toArray, List.length_append] at hi ⊢; omega
                rw [Array.getElem_append_left hi2]
                simp only [List.getElem_toArray]
                by_cases hlt : i < olds.length
                · rw [List.getElem_append_left hlt, List.getElem_append_left (by omega)]
                  exact g3 i hlt (by omega)
                · simp only [List.length_append] at hi
                  rw [List.getElem_append_right (by omega), List.getElem_append_right (by omega)]
                  simp only [← g1]
                  exact e2 _ (by omega) (by omega))
            rw [hcs] at hm
            exact (Mv.drew hr).trans hm
        split at hv
        · rename_i n sz es full
          split at hv
          · rename_i hm
            subst hm
            cases hv
            have hvs : vs = [] := List.eq_nil_of_length_eq_zero (by rw [hvl]; simp)
            subst hvs
            rcases hs.sl_inv with ⟨rfl, rfl, rfl⟩ | ⟨rfl, b, o, sp, cap, f, rfl, h6, h1, h2, h3, h4, h5⟩
            · refine ⟨.slice none 0 0, ι, w, ?_, .v (.slnil _ _), Mv.refl hr⟩
              have := hnews w rfl
              rcases hni with rfl | ⟨e2, rfl⟩
              all_goals simp [Builtin.append_, run_underlying hd, run_underlying hdx, sizeOf, typeInfo, k1, hlenw, this]
            · refine ⟨_, ι, w, ?_, .v (.sl sz es full b o cap f h1 h2 h3 h4 h5 sp h6), Mv.refl hr⟩
              have := hnews w rfl
              rcases hni with rfl | ⟨e2, rfl⟩
              all_goals simp [Builtin.append_, run_underlying hd, run_underlying hdx, sizeOf, typeInfo, k1, hlenw, this, h1, storeCells]
          · rename_i hm
            split at hv
            · rename_i hcond
              obtain ⟨hc1, hc2⟩ := hcond
              cases hv
              rcases hs.sl_inv with ⟨rfl, rfl, rfl⟩ | ⟨rfl, b, o, sp, cap, f, rfl, h6, h1, h2, h3, h4, h5⟩
              · have := fresh_new [] [] none 0 0 rfl (by simp) (fun i hi => by simp at hi) (by simp [Builtin.firstCells]) (by omega) (by simpa using hc2)
                simpa [chg] using this
              · simp only [Bool.false_eq_true, false_or] at hc1
                obtain ⟨hfu, hsz, hon⟩ := hc1
                subst hsz
                have hcap := h2 hfu
                subst hcap
                by_cases hcp : 0 < es.length
                rotate_left
                · have he0 : es = [] := List.eq_nil_of_length_eq_zero (by omega)
                  subst he0
                  have := fresh_new [] [] (some ⟨b, o, sp⟩) 0 0 rfl (by simp) (fun i hi => by simp at hi) (by simp [Builtin.firstCells, loadCells, loadCellsFrom]) (by omega) (by simpa using hc2)
                  simpa [chg] using this
                obtain rfl := h6 hcp
                have hfl := flatten_length es h3
                have hca := CellsAt.sl (ι := ι) (hr.same (w' := w.drew) rfl) (by omega) h3 h4 h5
                obtain ⟨ov, g1, g2, g3⟩ := hca.load (P := P)
                have hld := g3 (es.length * te.size) (by omega) w.drew rfl
                have htk : ov.take (es.length * te.size) = ov := List.take_of_length_le (by rw [g1, hfl]; exact Nat.le_refl _)
                rw [htk] at hld
                exact fresh_new es.flatten ov (some ⟨b, o, none⟩) es.length es.length g1.symm hfl g2 (by simp only [Builtin.firstCells, k2, hld]) (by omega) hc2
            · cases hv
        · rename_i nm off len sz
          cases ho : hp nm with
          | none => rw [ho] at hv; cases hv
          | some ob =>
            rw [ho] at hv
            simp only at hv
            split at hv
            · rename_i hcond
              obtain ⟨d1, d2, d3, d4, d5⟩ := hcond
              cases hv
              subst d2
              subst d4
              obtain ⟨l, o, cap, q1, rfl, q3, q4, q5⟩ := hs.arr_inv
              obtain ⟨l0, c, ec, p1, p2, p3, p4, p5, p6⟩ := hr.o_ok nm ob ho
              rw [q1] at p1; cases p1
              by_cases hroom : len + m ≤ cap
              · by_cases hc0 : 0 < cap
                · have := q5 hc0; subst this
                  have hfit : 0 + len * info.size + vs.length ≤ c.size := by
                    rw [hvl, k2, Nat.zero_add, ← Nat.add_mul, p3, ← q4, Nat.zero_add]; exact Nat.mul_le_mul_right _ hroom
                  have hrun := run_append_fit (P := P) (ty := ty) hd k1 hdx hni hlenw (hnews w rfl) p2 hone hroom hfit
                  have hfit2 : len * te.size + vs.length ≤ c.size := by rw [← k2]; omega
                  have m1 := Mv.store (fresh := fresh) hr nm ob ho d1 l q1 (ob.cs ++ news) (overV c (len * te.size) vs) (by rw [overV_size hfit2]; exact p3) (by rw [overV_size hfit2, List.length_append]; omega) (by
                    intro i hi hj
                    rcases overV_get hfit2 i hj with ⟨a', h2', e2'⟩ | ⟨a', b', h2', e2'⟩ | ⟨a', h2', e2'⟩
                    · rw [List.getElem_append_left (by omega), e2']; exact p5 i (by omega) h2'
                    · simp only [List.length_append] at hi
                      rw [List.getElem_append_right (by omega), e2']
                      simp only [← d3]
                      exact e2 _ (by omega) h2'
                    · simp only [List.length_append] at hi; omega)
                  have m2 := Mv.rename m1.hr nm fresh ⟨ob.cs ++ news, true⟩ (by simp [updH]) l q1 hf
                  have hch : updH (updH (updH hp nm (some ⟨ob.cs ++ news, true⟩)) nm none) fresh (some ⟨ob.cs ++ news, true⟩) = chg hp [(nm, none), (fresh, some ⟨ob.cs ++ news, true⟩)] := by
                    funext y; simp only [chg, updH]; split <;> (try rfl); split <;> rfl
                  rw [hch] at m2
                  refine ⟨_, updN ι fresh l, _, hrun, ?_, ?_⟩
                  · exact .arr fresh 0 (len + m) te.size l 0 cap (by simp [updN]) hroom q4 (fun _ => rfl)
                  · have := m1.trans m2
                    simpa [k2] using this
                · have hl0 : len = 0 := by omega
                  have hm0 : m = 0 := by omega
                  subst hl0; subst hm0
                  have hvs : vs = [] := List.eq_nil_of_length_eq_zero (by rw [hvl]; simp)
                  subst hvs
                  have hnn : news = [] := List.eq_nil_of_length_eq_zero (by rw [hnl]; simp)
                  subst hnn
                  have m2 := Mv.rename hr nm fresh ob ho l q1 hf
                  have hob : ob = ⟨ob.cs ++ [], true⟩ := by cases ob; simp_all
                  refine ⟨.slice (some ⟨l.blk, o, none⟩) 0 cap, updN ι fresh l, w, ?_, .arr fresh 0 0 te.size l o cap (by simp [updN]) (by omega) q4 q5, ?_⟩
                  · have := hnews w rfl
                    rcases hni with rfl | ⟨e2, rfl⟩
                    all_goals simp [Builtin.append_, run_underlying hd, run_underlying hdx, sizeOf, typeInfo, k1, hlenw, this, storeCells]
                  · rw [← hob]; exact m2
              · have hca := hr.cellsAt ho q1
                obtain ⟨ov, g1, g2, g3⟩ := hca.load (P := P)
                have hld := g3 (len * te.size) (by omega) w.drew rfl
                have htk : ov.take (len * te.size) = ov := List.take_of_length_le (by rw [g1, d3]; exact Nat.le_refl _)
                rw [htk] at hld
                have hold : (Builtin.firstCells info.size len (.slice (some ⟨l.blk, o, none⟩) len cap)).run P w.drew = .ok ov.toArray w.drew := by
                  by_cases hc0 : 0 < cap
                  · have := q5 hc0; subst this
                    simp only [Builtin.firstCells, k2, hld]
                  · have hl0 : len = 0 := by omega
                    subst hl0
                    have : ov = [] := List.eq_nil_of_length_eq_zero (by rw [g1, ← d3]; simp)
                    subst this
                    simp [Builtin.firstCells, loadCells, loadCellsFrom]
                obtain ⟨val, ι', w', f1, f2, f3⟩ := fresh_new ob.cs ov (some ⟨l.blk, o, none⟩) len cap g1.symm d3.symm g2 hold (by omega) d5
                refine ⟨val, ι', w', f1, f2, ?_⟩
                have hne : nm ≠ fresh := fun hh => by subst hh; rw [q1] at hf; cases hf
                refine f3.trans (Mv.forget f3.hr (fun n o hn => ?_))
                by_cases e1 : n = fresh
                · simpa [chg, updH, e1] using hn
                · by_cases e2 : n = nm
                  · simp [chg, updH, e1, e2, hne] at hn
                  · simpa [chg, updH, e1, e2] using hn
            · cases hv
        · cases hv

theorem copyA_ok {fresh : Nm} {S : SM} {ι : NM} {hp : HP} {w : World} (hr : HR S ι hp w) {t tx ty : TypeId} {s x v : AV} {ch : Ch} (hv : copyA tt t tx s x hp = some (v, ch)) {sv xv : Value} (hs : VT S ι s sv) (hx : VT S ι x xv) :
    ∃ val w', (Builtin.copy_ #[t, tx] ty #[sv, xv]).run P w = .ok val w' ∧ VT S ι v val ∧ Mv fresh S ι hp w S ι (chg hp ch) w' := by
  unfold copyA at hv
  cases ht : tt t with
  | none => rw [ht] at hv; cases hv
  | some ti =>
    rw [ht] at hv
    simp only at hv
    obtain ⟨d, hd, hdo⟩ := (hT t ti ht).under
    split at hv
    rotate_left
    · cases hv
    rename_i e he
    rw [he] at hdo
    simp only [descOk] at hdo
    subst hdo
    cases hte : tt e with
    | none => rw [hte] at hv; cases hv
    | some te =>
      rw [hte] at hv
      simp only at hv
      split at hv
      · rename_i m news nm off len sz hn
        cases ho : hp nm with
        | none => rw [ho] at hv; cases hv
        | some ob =>
          rw [ho] at hv
          simp only at hv
          split at hv
          · rename_i hcond
            obtain ⟨c1, c2, c3, c4, c5⟩ := hcond
            cases hv
            subst c3
            obtain ⟨info, z, k1, k2, k3, k4, k5, _⟩ := (hT e te hte).info
            obtain ⟨_, hnl, vs, e1, e2, e3⟩ := newsA_ok hT hr (by omega) hn hx
            have hone := VT.one_all e1.symm e2 c5
            obtain ⟨l, o, cap, q1, rfl, q3, q4, q5⟩ := hs.arr_inv
            obtain ⟨l0, c, ec, p1, p2, p3, p4, p5, p6⟩ := hr.o_ok nm ob ho
            rw [q1] at p1; cases p1
            have hlw := (e3 w rfl).1
            have hfw := (e3 w rfl).2 (min m len) (Nat.min_le_left _ _)
            have hnl' : news.length = m := by rw [hnl, c4]; omega
            rw [c4, Nat.mul_one] at hfw
            have hone' : ∀ u ∈ vs.take (min m len), u.oneCell' = true := fun u hu => hone u (List.mem_of_mem_take hu)
            by_cases hc0 : 0 < cap
            · have := q5 hc0; subst this
              have htl : (vs.take (min m len)).length = min m len := by simp [e1, hnl']
              have hfit : o + (vs.take (min m len)).length ≤ c.size := by rw [htl]; rw [c4] at c2; omega
              have hst := run_storeCells_at (P := P) l.blk o ec (vs.take (min m len)) 0 c w p2 (by omega) hone'
              simp only [Nat.add_zero] at hst
              refine ⟨.int .i64 (min m len : Nat), w.setRow l.blk (overV c o (vs.take (min m len))), ?_, .v (.int _ _), ?_⟩
              · have hmn : Nat.min m len = min m len := rfl
                simp [Builtin.copy_, run_underlying hd, sizeOf, typeInfo, k1, k2, c4, hlw, hmn, hfw, hst, overV, goInt]
              · have hle : o + (news.take (min m len)).length ≤ ob.cs.length := by simp [hnl']; rw [c4] at c2; omega
                exact Mv.store hr nm ob ho c1 l q1 _ _ (by rw [overV_size hfit]; exact p3) (by rw [over_length hle, overV_size hfit]; exact p4)
                  (over_VT p4 hle (by simp [e1]) p5 (fun i hi hj => by
                    simp only [List.getElem_take]
                    exact e2 i (by simp at hi; omega) (by simp at hj; omega)))
            · have hl0 : len = 0 := by omega
              subst hl0
              refine ⟨.int .i64 (min m 0 : Nat), w, ?_, .v (.int _ _), ?_⟩
              · have hmn : Nat.min m 0 = 0 := Nat.min_zero m
                simp only [Nat.min_zero, List.take_zero] at hfw
                simp [Builtin.copy_, run_underlying hd, sizeOf, typeInfo, k1, k2, c4, hlw, hmn, hfw, storeCells, goInt]
              · have hsame : chg hp [(nm, some ⟨over ob.cs off (news.take (min m 0)), true⟩)] = hp := by
                  funext y
                  simp only [chg, updH, Nat.min_zero, List.take_zero, over, List.append_nil, List.length_nil, Nat.add_zero, List.take_append_drop]
                  split
                  · rename_i hy; rw [hy, ho]; cases ob; simp only at c1; subst c1; rfl
                  · rfl
                rw [hsame]
                exact Mv.refl hr
          · cases hv
      · cases hv

end
end Go.Ab
