/- THE ABSTRACT MACHINE, 10: indexes, slices, conversions; every operation. Conditions: the table of types is the program's. -/
import Derived.Test.YthbbollhojdjdaaAbOps7
namespace Go.Ab
set_option linter.unusedSimpArgs false

section
variable {P : Program} {tt : TypeId → Option TI} (hT : TTok P tt)
include hT

theorem indexAddrA_ok {S : SM} {ι : NM} (w : World) {t : TypeId} {x ix v : AV} (h : indexAddrA tt t x ix = some v) {xv iv : Value} (hx : VT S ι x xv) (hi : VT S ι ix iv) :
    ∃ val, (Instr.indexAt t xv iv).run P w = .ok val w ∧ VT S ι v val := by
  unfold indexAddrA at h
  cases ht : tt t with
  | none => rw [ht] at h; cases h
  | some ti =>
    rw [ht] at h
    simp only at h
    obtain ⟨d, hd, hdo⟩ := (hT t ti ht).under
    split at h
    rotate_left
    · cases h
    rename_i k m
    have := hi.int_inv; subst this
    split at h
    · cases h
    rename_i hm0
    have hm0' : 0 ≤ m := by omega
    split at h
    · rename_i e n sz es full hdd
      rw [hdd] at hdo; simp only [descOk] at hdo; subst hdo
      split at h
      · rename_i te hte
        split at h
        · rename_i hsz
          subst hsz
          rw [Option.map_eq_some_iff] at h
          obtain ⟨cs, hcs, rfl⟩ := h
          obtain ⟨hlt, hget⟩ := List.getElem?_eq_some_iff.1 hcs
          rcases hx.sl_inv with ⟨rfl, rfl, rfl⟩ | ⟨rfl, b, o, sp, cap, f, rfl, h6, h1, h2, h3, h4, h5⟩
          · simp at hlt
          · obtain rfl := h6 (by omega)
            refine ⟨.pointer (some ⟨b, o + m.toNat * te.size, none⟩), ?_, ?_⟩
            · have hml : m < (es.length : Int) := by omega
              simp [Instr.indexAt, run_underlying hd, asIntOf, hm0', hml, run_sizeOf hT hte, addr_add]
            · have hl := h3 m.toNat hlt
              rw [hget] at hl
              refine .pc cs b _ (fun j => f m.toNat j) (fun j hj => ?_) (fun j hj => ?_)
              · have := h4 m.toNat j hlt (by omega)
                rw [← Nat.add_assoc] at this
                exact this
              · have := h5 m.toNat j hlt (by rw [hget]; exact hj)
                simp only [hget] at this
                exact this
        · cases h
      · cases h
    · rename_i e nm off len sz hdd
      rw [hdd] at hdo; simp only [descOk] at hdo; subst hdo
      split at h
      · rename_i te hte
        split at h
        · rename_i hc
          obtain ⟨rfl, hml⟩ := hc
          cases h
          obtain ⟨l, o, cap, q1, rfl, q3, q4, q5⟩ := hx.arr_inv
          have := q5 (by omega); subst this
          refine ⟨.pointer (some ⟨l.blk, o + m.toNat * te.size, none⟩), ?_, .ref nm _ l q1⟩
          simp [Instr.indexAt, run_underlying hd, asIntOf, hm0', hml, run_sizeOf hT hte, addr_add]
        · cases h
      · cases h
    · rename_i n e nm off hdd
      rw [hdd] at hdo; simp only [descOk] at hdo; subst hdo
      split at h
      · rename_i te hte
        split at h
        · rename_i hml
          cases h
          obtain ⟨l, hl, rfl⟩ := hx.ref_inv
          refine ⟨.pointer (some ⟨l.blk, off + m.toNat * te.size, none⟩), ?_, .ref nm _ l hl⟩
          simp [Instr.indexAt, run_underlying hd, asIntOf, Instr.sureAddr, hm0', hml, run_sizeOf hT hte, addr_add]
        · cases h
      · cases h
    · rename_i n e cs hdd
      rw [hdd] at hdo; simp only [descOk] at hdo; subst hdo
      split at h
      · rename_i te hte
        split at h
        · rename_i hml
          cases h
          cases hx with
          | v hx => cases hx
          | pc _ b o ff h1 h2 =>
            refine ⟨.pointer (some ⟨b, o + m.toNat * te.size, none⟩), ?_, .pc _ b _ (fun j => ff (m.toNat * te.size + j)) (fun j hj => ?_) (fun j hj => ?_)⟩
            · simp [Instr.indexAt, run_underlying hd, asIntOf, Instr.sureAddr, hm0', hml, run_sizeOf hT hte, addr_add]
            · rw [Nat.add_assoc]; exact h1 _ (by simp at hj; omega)
            · simp only [List.getElem_drop]; exact h2 _ (by simp at hj; omega)
        · cases h
      · cases h
    · cases h

theorem indexA_ok {S : SM} {ι : NM} (w : World) {t : TypeId} {x ix v : AV} (h : indexA tt t x ix = some v) {xv iv : Value} (hx : VT S ι x xv) (hi : VT S ι ix iv) :
    ∃ val, (Instr.index t xv iv).run P w = .ok val w ∧ VT S ι v val := by
  unfold indexA at h
  cases ht : tt t with
  | none => rw [ht] at h; cases h
  | some ti =>
    rw [ht] at h
    simp only at h
    obtain ⟨d, hd, hdo⟩ := (hT t ti ht).under
    split at h
    rotate_left
    · cases h
    rename_i k m
    have := hi.int_inv; subst this
    split at h
    · cases h
    rename_i hm0
    have hm0' : 0 ≤ m := by omega
    split at h
    · rename_i l hdd
      rw [hdd] at hdo; simp only [descOk] at hdo; subst hdo
      rw [Option.map_eq_some_iff] at h
      obtain ⟨b, hb, rfl⟩ := h
      have := hx.str_inv; subst this
      refine ⟨.int .u8 b.toNat, ?_, .v (.int _ _)⟩
      have hb' : (⟨l.toArray⟩ : ByteArray)[m.toNat]? = some b := by
        obtain ⟨hlt, he⟩ := List.getElem?_eq_some_iff.1 hb
        have hs : m.toNat < (⟨l.toArray⟩ : ByteArray).size := by rw [bytes_size]; exact hlt
        rw [getElem?_pos (⟨l.toArray⟩ : ByteArray) m.toNat hs]
        congr 1
      simp [Instr.index, run_underlying hd, asIntOf, hm0', hb']
    · rename_i n e cs hdd
      rw [hdd] at hdo; simp only [descOk] at hdo; subst hdo
      split at h
      · rename_i te hte
        split at h
        · rename_i hml
          obtain ⟨vs, rfl, hl, hv⟩ := hx.agg_inv
          obtain ⟨val, h1, h2⟩ := partA_ok hT hte hl hv h w
          exact ⟨val, by simpa [Instr.index, run_underlying hd, asIntOf, hm0', hml, run_sizeOf hT hte] using h1, h2⟩
        · cases h
      · cases h
    · cases h

omit hT in
/-- How an option's operand reads. -/
def OptVT (S : SM) (ι : NM) (x : Option AV) (v : Option Value) : Prop := match x, v with | none, none => True | some a, some b => VT S ι a b | _, _ => False

omit hT in
theorem boundA_ok {S : SM} {ι : NM} {d : Nat} {x : Option AV} {n : Nat} (h : boundA d x = some n) {v : Option Value} (hv : OptVT S ι x v) :
    (x = none ∧ v = none ∧ n = d) ∨ ∃ k m, v = some (.int k m) ∧ 0 ≤ m ∧ m.toNat = n ∧ x = some (.int k m) := by
  cases x with
  | none =>
    cases v with
    | none => simp only [boundA, Option.some.injEq] at h; exact .inl ⟨rfl, rfl, h.symm⟩
    | some b => exact hv.elim
  | some a =>
    cases v with
    | none => exact hv.elim
    | some b =>
      cases a <;> simp only [boundA] at h <;> first | (cases h; done) | skip
      rename_i k m
      split at h
      · rename_i h0
        cases h
        have := VT.int_inv hv; subst this
        exact .inr ⟨k, m, rfl, h0, rfl, rfl⟩
      · cases h

omit hT in
theorem bounds_ok {S : SM} {ι : NM} (isSlice : Bool) {len cap a b : Nat} {lo hi : Option AV} {lov hiv : Option Value} (w : World) (hlo : boundA 0 lo = some a) (hhi : boundA len hi = some b) (hlv : OptVT S ι lo lov) (hhv : OptVT S ι hi hiv)
    (hab : a ≤ b) (hb : b ≤ cap) : (Instr.sliceBounds isSlice len cap lov hiv none).run P w = .ok (a, b, cap) w := by
  rcases boundA_ok hlo hlv with ⟨rfl, rfl, rfl⟩ | ⟨k, m, rfl, h0, rfl, rfl⟩ <;> rcases boundA_ok hhi hhv with ⟨rfl, rfl, rfl⟩ | ⟨k', m', rfl, h0', rfl, rfl⟩
  · simp [Instr.sliceBounds]
  · have h1 : m' ≤ (cap : Int) := by omega
    simp [Instr.sliceBounds, Instr.sliceBound, asIntOf, h0', h1]
  · have h1 : m ≤ (b : Int) := by omega
    simp [Instr.sliceBounds, Instr.sliceBound, asIntOf, h0, h1]
  · have h1 : m' ≤ (cap : Int) := by omega
    have h2 : m ≤ ((m'.toNat : Nat) : Int) := by omega
    have h3 : m ≤ max m' 0 := by omega
    simp [Instr.sliceBounds, Instr.sliceBound, asIntOf, h0', h0, h1, h2, h3]

omit hT in
theorem bounds3_ok {S : SM} {ι : NM} {len cap a b m : Nat} {lo : Option AV} {hi mx : AV} {lov : Option Value} {hiv mxv : Value} (w : World) (hlo : boundA 0 lo = some a) (hhi : boundA len (some hi) = some b) (hmx : boundA 0 (some mx) = some m)
    (hlv : OptVT S ι lo lov) (hhv : VT S ι hi hiv) (hmv : VT S ι mx mxv) (hab : a ≤ b) (hb : b ≤ m) (hm : m ≤ cap) : (Instr.sliceBounds true len cap lov (some hiv) (some mxv)).run P w = .ok (a, b, m) w := by
  rcases boundA_ok (v := some hiv) hhi hhv with ⟨h, _⟩ | ⟨k', m', hh, h0', rfl, _⟩
  · cases h
  cases hh
  rcases boundA_ok (v := some mxv) hmx hmv with ⟨h, _⟩ | ⟨k2, m2, hh, h02, rfl, _⟩
  · cases h
  cases hh
  have h1 : m2 ≤ (cap : Int) := by omega
  have h2 : m' ≤ ((m2.toNat : Nat) : Int) := by omega
  have h3 : m' ≤ max m2 0 := by omega
  rcases boundA_ok hlo hlv with ⟨rfl, rfl, rfl⟩ | ⟨k, m, rfl, h0, rfl, rfl⟩
  · simp [Instr.sliceBounds, Instr.sliceBound, asIntOf, h0', h02, h1, h2, h3]
  · have h4 : m ≤ ((m'.toNat : Nat) : Int) := by omega
    have h5 : m ≤ max m' 0 := by omega
    simp [Instr.sliceBounds, Instr.sliceBound, asIntOf, h0', h02, h0, h1, h2, h3, h4, h5]

omit hT in
theorem run_bytes_none {src e : TypeId} (hs : P.underlying src = some (.slice e)) (he : P.underlying e = some (.int .u8)) {w : World} (a : Addr) (cap : Nat) {dst : TypeId} (hd : P.underlying dst = some .string) :
    (convert src dst (.slice (some a) 0 cap)).run P w = .ok (.string ⟨#[]⟩) w := by
  have hl : (loadCells a 0).run P w = .ok (([] : List Int).map (Value.int .u8)).toArray w := by simp [loadCells, loadCellsFrom]
  rw [run_convert_bytes_string w src dst e _ 0 cap hs he hd, run_bytesToString w a 0 cap [] hl]
  rfl

omit hT in
/-- A part of a slice, as a slice. -/
theorem V.part {S : SM} {sz : Nat} {es : List (List AV)} {b o : Nat} {f : Nat → Nat → Value} (h3 : ∀ i (hi : i < es.length), es[i].length = sz) (h4 : ∀ i j, i < es.length → j < sz → scell S b (o + (i * sz + j)) = some (f i j))
    (h5 : ∀ i j (hi : i < es.length) (hj : j < es[i].length), V S es[i][j] (f i j)) (full : Bool) (l h c : Nat) (h1 : l ≤ h) (h2 : h ≤ es.length) (hc : h - l ≤ c) (hf : full = true → c = h - l) (ad : Option Addr)
    (hadd : ad = some ⟨b, o, none⟩ ∧ c = 0 ∨ ad = some ⟨b, o + l * sz, none⟩) : V S (.sl false sz ((es.drop l).take (h - l)) full) (.slice ad (h - l) c) := by
  have hlen : ((es.drop l).take (h - l)).length = h - l := by simp; omega
  have gen : ∀ o', (0 < h - l → o' = o + l * sz) → V S (.sl false sz ((es.drop l).take (h - l)) full) (.slice (some ⟨b, o', none⟩) (h - l) c) := by
    intro o' ho'
    have := V.sl (S := S) sz ((es.drop l).take (h - l)) full b o' c (fun i j => f (l + i) j) (by omega) (by rw [hlen]; exact hf) (fun i hi => by
      simp only [List.getElem_take, List.getElem_drop]; exact h3 _ _) (fun i j hi hj => by
      rw [hlen] at hi
      rw [ho' (by omega)]
      have := h4 (l + i) j (by omega) hj
      rw [Nat.add_mul] at this
      rw [show o + l * sz + (i * sz + j) = o + (l * sz + i * sz + j) from by omega]
      exact this) (fun i j hi hj => by
      rw [hlen] at hi
      have := h5 (l + i) j (by omega) (by simpa only [List.getElem_take, List.getElem_drop] using hj)
      simpa only [List.getElem_take, List.getElem_drop] using this)
    rw [hlen] at this
    exact this none (fun _ => rfl)
  rcases hadd with ⟨rfl, hc0⟩ | rfl
  · exact gen o (fun hh => by omega)
  · exact gen _ (fun _ => rfl)

theorem sliceA_ok {fresh : Nm} {S : SM} {ι : NM} {hp : HP} {w : World} (hr : HR S ι hp w) {t : TypeId} {x v : AV} {lo hi mx : Option AV} {ch : Ch} (h : sliceA tt t x lo hi mx hp = some (v, ch)) {xv : Value} {lov hiv mxv : Option Value}
    (hx : VT S ι x xv) (hlv : OptVT S ι lo lov) (hhv : OptVT S ι hi hiv) (hmv : OptVT S ι mx mxv) :
    ∃ val S', (Instr.sliceAt t xv lov hiv mxv).run P w = .ok val w ∧ VT S' ι v val ∧ Mv fresh S ι hp w S' ι (chg hp ch) w := by
  unfold sliceA at h
  cases ht : tt t with
  | none => rw [ht] at h; cases h
  | some ti =>
    rw [ht] at h
    simp only at h
    obtain ⟨d, hd, hdo⟩ := (hT t ti ht).under
    split at h
    · rename_i l hdd
      rw [hdd] at hdo; simp only [descOk] at hdo; subst hdo
      have := hx.str_inv; subst this
      split at h
      · rename_i a b hlo hhi
        split at h
        · rename_i hc
          cases h
          have hmxv : mxv = none := by cases mxv with | none => rfl | some _ => exact hmv.elim
          subst hmxv
          have hb := bounds_ok (P := P) false w hlo hhi hlv hhv hc.1 hc.2
          refine ⟨.string ((⟨l.toArray⟩ : ByteArray).extract a b), S, ?_, ?_, Mv.refl hr⟩
          · simp [Instr.sliceAt, Instr.slice, run_underlying hd, bytes_size, hb]
          · have e : (⟨l.toArray⟩ : ByteArray).extract a b = ⟨((l.drop a).take (b - a)).toArray⟩ := by
              apply ByteArray.ext
              apply Array.ext'
              rw [Lib.extract_data]
            rw [e]
            exact .v (.str _)
        · cases h
      · cases h
    · rename_i e n sz es full hdd
      rw [hdd] at hdo; simp only [descOk] at hdo; subst hdo
      split at h
      · rename_i te a b hte hlo hhi
        split at h
        · rename_i hc
          obtain ⟨c1, c2, c3⟩ := hc
          cases h
          have hmxv : mxv = none := by cases mxv with | none => rfl | some _ => exact hmv.elim
          subst hmxv
          rcases hx.sl_inv with ⟨rfl, rfl, rfl⟩ | ⟨rfl, b0, o, sp, cap, f, rfl, h6, h1, h2, h3, h4, h5⟩
          · have hb0 : b = 0 := by simpa using c2
            subst hb0
            have ha0 : a = 0 := by omega
            subst ha0
            have hb := bounds_ok (P := P) (cap := 0) true w hlo hhi hlv hhv (Nat.le_refl _) (Nat.le_refl _)
            refine ⟨.slice none 0 0, S, ?_, .v (.slnil _ _), Mv.refl hr⟩
            simp only [List.length_nil] at hb
            simp [Instr.sliceAt, Instr.slice, run_underlying hd, hb, run_sizeOf hT hte]
          · by_cases hcp : 0 < cap
            rotate_left
            · have he0 : es = [] := List.eq_nil_of_length_eq_zero (by omega)
              subst he0
              have hcp0 : cap = 0 := by omega
              subst hcp0
              have hb0 : b = 0 := by simpa using c2
              subst hb0
              have ha0 : a = 0 := by omega
              subst ha0
              have hb := bounds_ok (P := P) (cap := 0) true w hlo hhi hlv hhv (Nat.le_refl _) (Nat.le_refl _)
              refine ⟨.slice (some ⟨b0, o, sp⟩) 0 0, S, ?_, .v (.sl sz [] _ b0 o 0 f (Nat.le_refl _) (fun _ => rfl) (fun i hi => by simp at hi) (fun i j hi => by simp at hi) (fun i j hi => by simp at hi) sp h6), Mv.refl hr⟩
              simp only [List.length_nil] at hb
              simp [Instr.sliceAt, Instr.slice, run_underlying hd, hb, run_sizeOf hT hte]
            obtain rfl := h6 hcp
            have hsz : sz = te.size := by simpa using c3
            have hb := bounds_ok (P := P) (cap := cap) true w hlo hhi hlv hhv c1 (by omega)
            refine ⟨.slice (if cap = a then some ⟨b0, o, none⟩ else some ⟨b0, o + a * sz, none⟩) (b - a) (cap - a), S, ?_, .v (V.part h3 h4 h5 _ a b (cap - a) c1 c2 (by omega) ?_ _ ?_), Mv.refl hr⟩
            · simp [Instr.sliceAt, Instr.slice, run_underlying hd, hb, run_sizeOf hT hte, addr_add, hsz]
            · intro hf
              simp only [Bool.and_eq_true, decide_eq_true_eq] at hf
              rw [h2 hf.1, hf.2]
            · by_cases hca : cap = a
              · rw [if_pos hca]; exact .inl ⟨rfl, by omega⟩
              · rw [if_neg hca]; exact .inr rfl
        · cases h
      · rename_i te a b m hte hlo hhi
        split at h
        · rename_i m' hmm
          split at h
          · rename_i hc
            obtain ⟨c1, c2, c3, c4⟩ := hc
            cases h
            cases hiv with
            | none => exact hhv.elim
            | some hiv =>
            cases mxv with
            | none => exact hmv.elim
            | some mxv =>
            rcases hx.sl_inv with ⟨rfl, rfl, rfl⟩ | ⟨rfl, b0, o, sp, cap, f, rfl, h6, h1, h2, h3, h4, h5⟩
            · have hm0 : m' = 0 := by simpa using c3
              subst hm0
              have hb0 : b = 0 := by omega
              subst hb0
              have ha0 : a = 0 := by omega
              subst ha0
              have hb := bounds3_ok (P := P) (cap := 0) w hlo hhi hmm hlv hhv hmv (Nat.le_refl _) (Nat.le_refl _) (Nat.le_refl _)
              refine ⟨.slice none 0 0, S, ?_, .v (.slnil _ _), Mv.refl hr⟩
              simp only [List.length_nil] at hb
              simp [Instr.sliceAt, Instr.slice, run_underlying hd, hb, run_sizeOf hT hte]
            · by_cases hcp : 0 < cap
              rotate_left
              · have he0 : es = [] := List.eq_nil_of_length_eq_zero (by omega)
                subst he0
                have hcp0 : cap = 0 := by omega
                subst hcp0
                have hm0 : m' = 0 := by simpa using c3
                subst hm0
                have hb0 : b = 0 := by omega
                subst hb0
                have ha0 : a = 0 := by omega
                subst ha0
                have hb := bounds3_ok (P := P) (cap := 0) w hlo hhi hmm hlv hhv hmv (Nat.le_refl _) (Nat.le_refl _) (Nat.le_refl _)
                refine ⟨.slice (some ⟨b0, o, sp⟩) 0 0, S, ?_, .v (.sl sz [] _ b0 o 0 f (Nat.le_refl _) (fun _ => rfl) (fun i hi => by simp at hi) (fun i j hi => by simp at hi) (fun i j hi => by simp at hi) sp h6), Mv.refl hr⟩
                simp only [List.length_nil] at hb
                simp [Instr.sliceAt, Instr.slice, run_underlying hd, hb, run_sizeOf hT hte]
              obtain rfl := h6 hcp
              have hsz : sz = te.size := by simpa using c4
              have hb := bounds3_ok (P := P) (cap := cap) w hlo hhi hmm hlv hhv hmv c1 c2 (by omega)
              refine ⟨.slice (if m' = a then some ⟨b0, o, none⟩ else some ⟨b0, o + a * sz, none⟩) (b - a) (m' - a), S, ?_, .v (V.part h3 h4 h5 _ a b (m' - a) c1 (by omega) (by omega) ?_ _ ?_), Mv.refl hr⟩
              · simp [Instr.sliceAt, Instr.slice, run_underlying hd, hb, run_sizeOf hT hte, addr_add, hsz]
              · intro hf
                simp only [decide_eq_true_eq] at hf
                rw [hf]
              · by_cases hca : m' = a
                · rw [if_pos hca]; exact .inl ⟨rfl, by omega⟩
                · rw [if_neg hca]; exact .inr rfl
          · cases h
        · cases h
      · cases h
    · rename_i e nm off len sz hdd
      rw [hdd] at hdo; simp only [descOk] at hdo; subst hdo
      split at h
      · rename_i te a b ob hte hlo hhi ho
        split at h
        · rename_i hc
          obtain ⟨c1, c2, rfl, c4⟩ := hc
          cases h
          have hmxv : mxv = none := by cases mxv with | none => rfl | some _ => exact hmv.elim
          subst hmxv
          obtain ⟨l, o, cap, q1, rfl, q3, q4, q5⟩ := hx.arr_inv
          obtain ⟨l0, c, ec, p1, p2, p3, p4, p5, p6⟩ := hr.o_ok nm ob ho
          rw [q1] at p1; cases p1
          have hbc : b ≤ cap := by
            have : b * te.size ≤ cap * te.size := by omega
            exact Nat.le_of_mul_le_mul_right this c4
          have hb := bounds_ok (P := P) (cap := cap) true w hlo hhi hlv hhv c1 hbc
          refine ⟨.slice (if cap = a then some ⟨l.blk, o, none⟩ else some ⟨l.blk, o + a * te.size, none⟩) (b - a) (cap - a), S, ?_, ?_, Mv.refl hr⟩
          · simp [Instr.sliceAt, Instr.slice, run_underlying hd, hb, run_sizeOf hT hte, addr_add]
          · by_cases hca : cap = a
            · rw [if_pos hca]
              refine .arr nm _ (b - a) te.size l o (cap - a) q1 (by omega) ?_ (fun h => by omega)
              rw [← q4, hca]; simp
            · rw [if_neg hca]
              have := q5 (by omega); subst this
              refine .arr nm _ (b - a) te.size l _ (cap - a) q1 (by omega) ?_ (fun h => rfl)
              rw [← q4, Nat.add_assoc, ← Nat.add_mul]
              congr 2
              omega
        · cases h
      · cases h
    · rename_i n e nm off hdd
      rw [hdd] at hdo; simp only [descOk] at hdo; subst hdo
      split at h
      · rename_i te a b hte hlo hhi
        split at h
        · rename_i hc
          obtain ⟨c1, c2⟩ := hc
          split at h
          · rename_i s hse
            cases h
            have hmxv : mxv = none := by cases mxv with | none => rfl | some _ => exact hmv.elim
            subst hmxv
            obtain ⟨l, hl, rfl⟩ := hx.ref_inv
            obtain ⟨ob, hob⟩ := sealA_ob hse
            obtain ⟨S', m1, m2⟩ := sealAll (fresh := fresh) [nm] hr
            have hsl := m2 nm (by simp) ob hob
            have hb := bounds_ok (P := P) (cap := n) false w hlo hhi hlv hhv c1 c2
            refine ⟨.slice (some (if n = a then ⟨l.blk, off, none⟩ else ⟨l.blk, off + a * te.size, none⟩)) (b - a) (n - a), S', ?_, .v ?_, m1⟩
            · simp [Instr.sliceAt, Instr.sureAddr, run_underlying hd, hb, run_sizeOf hT hte, addr_add]
            · by_cases hna : n = a
              · rw [if_pos hna]; exact sealA_V hse hob hsl hl (by omega) (fun h => by omega)
              · rw [if_neg hna]; exact sealA_V hse hob hsl hl (by omega) (fun h => rfl)
          · cases h
        · cases h
      · cases h
    · cases h


omit hT in
theorem bytesA_get : ∀ {es : List (List AV)} {l : List UInt8}, bytesA es = some l → l.length = es.length ∧ ∀ i (h1 : i < es.length) (h2 : i < l.length), ∃ n : Int, es[i] = [.int .u8 n] ∧ l[i] = UInt8.ofNat n.toNat
  | [], l, h => by simp only [bytesA, Option.some.injEq] at h; subst h; exact ⟨rfl, fun i h1 => by simp at h1⟩
  | e :: es, l, h => by
    unfold bytesA at h
    split at h
    · rename_i hh; cases hh
    · rename_i n es' hh
      cases hh
      split at h
      · rename_i r hr
        cases h
        obtain ⟨g1, g2⟩ := bytesA_get hr
        refine ⟨by simp [g1], fun i h1 h2 => ?_⟩
        cases i with
        | zero => exact ⟨n, rfl, rfl⟩
        | succ i => exact g2 i (by simpa using h1) (by simpa using h2)
      · cases h
    · cases h

omit hT in
theorem bytesC_get : ∀ {es : List AV} {l : List UInt8}, bytesC es = some l → l.length = es.length ∧ ∀ i (h1 : i < es.length) (h2 : i < l.length), ∃ n : Int, es[i] = .int .u8 n ∧ l[i] = UInt8.ofNat n.toNat
  | [], l, h => by simp only [bytesC, Option.some.injEq] at h; subst h; exact ⟨rfl, fun i h1 => by simp at h1⟩
  | e :: es, l, h => by
    unfold bytesC at h
    split at h
    · rename_i hh; cases hh
    · rename_i n es' hh
      cases hh
      split at h
      · rename_i r hr
        cases h
        obtain ⟨g1, g2⟩ := bytesC_get hr
        refine ⟨by simp [g1], fun i h1 h2 => ?_⟩
        cases i with
        | zero => exact ⟨n, rfl, rfl⟩
        | succ i => exact g2 i (by simpa using h1) (by simpa using h2)
      · cases h
    · cases h

omit hT in
/-- Bytes in memory, as a text. -/
theorem run_bytes {src e : TypeId} (hs : P.underlying src = some (.slice e)) (he : P.underlying e = some (.int .u8)) {w : World} {b o len cap : Nat} {l : List UInt8} (hl : l.length = len)
    (hc : ∀ i (hi : i < l.length), ∃ n : Int, w.cell? ⟨b, o + i, none⟩ = some (.int .u8 n) ∧ l[i] = UInt8.ofNat n.toNat) {dst : TypeId} (hd : P.underlying dst = some .string) :
    (convert src dst (.slice (some ⟨b, o, none⟩) len cap)).run P w = .ok (.string ⟨l.toArray⟩) w := by
  have hx : ∃ xs : List Int, xs.length = l.length ∧ ∀ i (hi : i < l.length) (hj : i < xs.length), w.cell? ⟨b, o + i, none⟩ = some (.int .u8 xs[i]) ∧ l[i] = UInt8.ofNat xs[i].toNat := by
    refine ⟨(List.range l.length).map fun i => if h : i < l.length then Classical.choose (hc i h) else 0, by simp, fun i hi hj => ?_⟩
    have := Classical.choose_spec (hc i hi)
    simpa [hi] using this
  obtain ⟨xs, h1, h2⟩ := hx
  have hr := run_convert_bytes_arg (P := P) w src e hs he b o len cap xs (by omega) (fun i hi => by
    have := (h2 i (by omega) (by omega)).1
    rw [this]
    simp [List.getD, List.getElem?_eq_getElem (show i < xs.length by omega)]) dst hd
  rw [hr]
  have : strOfNums xs = ⟨l.toArray⟩ := by
    unfold strOfNums
    congr 2
    apply List.ext_getElem (by simp [h1])
    intro i g1 g2
    simp only [List.getElem_map]
    exact ((h2 i g2 (by omega)).2).symm
  rw [this]

omit hT in
theorem Mv.keepAt {fresh : Nm} {S : SM} {ι : NM} {hp : HP} {w w' : World} (h : HR S ι hp w) (o : Obj) (hn : w'.heap[w.heap.size]? = some o) (ho : ∀ b, b < w.heap.size → w'.heap[b]? = w.heap[b]?)
    (h1 : w'.os = w.os) (h2 : w'.tape = w.tape) (h3 : w'.output = w.output) : Mv fresh S ι hp w (updS S w.heap.size o) ι hp w' := by
  have hk := Mv.keep (fresh := fresh) h o
  have hag : ∀ (b : Nat) (x : Obj), (w.alloc o).heap[b]? = some x → w'.heap[b]? = some x := by
    intro b x hx
    have hlt : b < (w.alloc o).heap.size := (Array.getElem?_eq_some_iff.1 hx).1
    rw [World.size_alloc] at hlt
    by_cases hb : b = w.heap.size
    · subst hb; rw [heap_alloc_new] at hx; cases hx; exact hn
    · rw [ho b (by omega)]; rw [heap_alloc_old w _ b (by omega)] at hx; exact hx
  refine ⟨hk.sle, hk.ile, ⟨fun b x hx => hag b x (hk.hr.s_ok b x hx), fun nm ob hh => ?_, hk.hr.inj⟩, h1, h2, h3, ?_, fun b hb _ => ho b hb, hk.snew, hk.own, hk.dom⟩
  · obtain ⟨l, c, e, q1, q2, q3⟩ := hk.hr.o_ok nm ob hh
    exact ⟨l, c, e, q1, hag _ _ q2, q3⟩
  · have := (Array.getElem?_eq_some_iff.1 hn).1
    omega

theorem convA_ok {fresh : Nm} {S : SM} {ι : NM} {hp : HP} {w : World} (hr : HR S ι hp w) {src dst : TypeId} {x v : AV} (h : convA tt src dst x hp = some v) {xv : Value} (hx : VT S ι x xv) :
    ∃ val S' w', (convert src dst xv).run P w = .ok val w' ∧ VT S' ι v val ∧ Mv fresh S ι hp w S' ι hp w' := by
  unfold convA at h
  split at h
  rotate_left
  · cases h
  rename_i ts td hts htd
  obtain ⟨ds, hds, hdso⟩ := (hT src ts hts).under
  obtain ⟨dd, hdd, hddo⟩ := (hT dst td htd).under
  split at h
  · rename_i k k' n hk
    rw [hk] at hddo; simp only [descOk] at hddo; subst hddo
    have := hx.int_inv; subst this
    cases h
    exact ⟨.int k (k.wrap n), S, w, by simp [convert, run_underlying hds, run_underlying hdd, Conv.intToInt], .v (.int _ _), Mv.refl hr⟩
  · rename_i l hk
    rw [hk] at hddo; simp only [descOk] at hddo; subst hddo
    have := hx.str_inv; subst this
    cases h
    exact ⟨.string ⟨l.toArray⟩, S, w, by simp [convert, run_underlying hds, run_underlying hdd], .v (.str _), Mv.refl hr⟩
  · rename_i e l hk
    rw [hk] at hddo; simp only [descOk] at hddo; subst hddo
    have := hx.str_inv; subst this
    split at h
    · rename_i te hte
      obtain ⟨de, hde, hdeo⟩ := (hT e te hte).under
      split at h
      · rename_i hk8
        rw [hk8] at hdeo; simp only [descOk] at hdeo; subst hdeo
        cases h
        have hrun := Lib.run_convert_string_bytes (P := P) w src dst e ⟨l.toArray⟩ hds hdd hde
        have m1 := Mv.keepAt (fresh := fresh) hr _ (Lib.bytesWorld_at_new w e ⟨l.toArray⟩) (Lib.bytesWorld_at_old w e ⟨l.toArray⟩) rfl rfl rfl
        refine ⟨_, _, _, hrun, .v ?_, m1⟩
        have hcl : (chunk 1 l.length (l.map ofByte)) = l.map fun b => [ofByte b] := by
          apply List.ext_getElem (by simp [chunk_length])
          intro i g1 g2
          rw [chunk_get]
          simp only [List.length_map] at g2
          simp only [Nat.mul_one, List.getElem_map]
          rw [List.drop_eq_getElem_cons (by simpa using g2)]
          simp
        rw [← hcl, bytes_size]
        have hge := grownCap_ge w l.length 0 e
        refine V.of_cells (ι := ι) (e := e) (fz := ((Lib.bytesCells w e ⟨l.toArray⟩).size, (Lib.bytesCells w e ⟨l.toArray⟩).size + 1)) (c := Lib.bytesCells w e ⟨l.toArray⟩) (by simp [updS]) false (by simp) hge (by simp) (fun _ => by simp [Lib.bytesCells]) ?_ (fun i hi hj => ?_)
        · generalize l = l'
          induction l' with
          | nil => rfl
          | cons a l' ih => simp only [List.map_cons, nf.nfs, ih, ofByte, nf, Bool.and_self]
        · simp only [List.length_map] at hi
          have : (Lib.bytesCells w e ⟨l.toArray⟩)[0 + i] = .int .u8 l[i].toNat := by
            simp [Lib.bytesCells, hi]
          rw [this]
          simp only [List.getElem_map, ofByte]
          exact .v (.int _ _)
      · cases h
    · cases h
  · rename_i n sz es full hk
    rw [hk] at hddo; simp only [descOk] at hddo; subst hddo
    split at h
    · rename_i e hse
      rw [hse] at hdso; simp only [descOk] at hdso; subst hdso
      split at h
      · rename_i te hte
        obtain ⟨de, hde, hdeo⟩ := (hT e te hte).under
        split at h
        · rename_i hk8
          rw [hk8] at hdeo; simp only [descOk] at hdeo; subst hdeo
          split at h
          · rename_i hn
            subst hn
            cases h
            rcases hx.sl_inv with ⟨_, rfl, rfl⟩ | ⟨hh, _⟩
            · refine ⟨.string ⟨#[]⟩, S, w, ?_, .v (.str []), Mv.refl hr⟩
              have := run_convert_bytes_nil (P := P) w src e hds hde 0 0 dst hdd
              exact this
            · cases hh
          · split at h
            · rename_i hn hsz
              subst hsz
              rw [Option.map_eq_some_iff] at h
              obtain ⟨l, hl, rfl⟩ := h
              rcases hx.sl_inv with ⟨hh, _⟩ | ⟨rfl, b, o, sp, cap, f, rfl, h6, h1, h2, h3, h4, h5⟩
              · exact absurd hh (by simpa using hn)
              · by_cases hcp : 0 < cap
                rotate_left
                · have he0 : es = [] := List.eq_nil_of_length_eq_zero (by omega)
                  subst he0
                  simp only [bytesA, Option.some.injEq] at hl
                  subst hl
                  exact ⟨_, S, w, run_bytes_none hds hde _ cap hdd, .v (.str []), Mv.refl hr⟩
                obtain rfl := h6 hcp
                obtain ⟨g1, g2⟩ := bytesA_get hl
                refine ⟨_, S, w, run_bytes (b := b) (o := o) (cap := cap) hds hde (l := l) g1 (fun i hi => ?_) hdd, .v (.str _), Mv.refl hr⟩
                obtain ⟨n, k1, k2⟩ := g2 i (by omega) hi
                have a1 := hr.cell (h4 i 0 (by omega) (by omega))
                have a2 := h5 i 0 (by omega) (by rw [k1]; simp)
                simp only [k1, List.getElem_cons_zero] at a2
                have a3 := (VT.v (ι := ι) a2).int_inv
                refine ⟨n, ?_, k2⟩
                rw [a3] at a1
                simpa using a1
            · cases h
        · cases h
      · cases h
    · cases h
  · rename_i nm off len sz hk
    rw [hk] at hddo; simp only [descOk] at hddo; subst hddo
    split at h
    · rename_i e hse
      rw [hse] at hdso; simp only [descOk] at hdso; subst hdso
      split at h
      · rename_i te hte
        obtain ⟨de, hde, hdeo⟩ := (hT e te hte).under
        split at h
        · rename_i hk8
          rw [hk8] at hdeo; simp only [descOk] at hdeo; subst hdeo
          split at h
          · rename_i ob ho
            split at h
            · rename_i cs hcs
              split at h
              · rename_i hsz
                subst hsz
                rw [Option.map_eq_some_iff] at h
                obtain ⟨l, hl, rfl⟩ := h
                simp only [arrCells] at hcs
                split at hcs
                · rename_i hc
                  cases hcs
                  obtain ⟨lc, o, cap, q1, rfl, q3, q4, q5⟩ := hx.arr_inv
                  obtain ⟨g1, g2⟩ := bytesC_get hl
                  have hlen : l.length = len := by rw [g1]; simp; omega
                  have hca := ((hr.cellsAt ho q1).drop off).take (len * 1)
                  rw [Nat.zero_add] at hca
                  obtain ⟨vs, e1, e2, e3⟩ := hca
                  refine ⟨_, S, w, run_bytes (b := lc.blk) (o := o) (cap := cap) hds hde (l := l) hlen (fun i hi => ?_) hdd, .v (.str _), Mv.refl hr⟩
                  have := q5 (by omega); subst this
                  obtain ⟨n, k1, k2⟩ := g2 i (by omega) hi
                  have a1 := e2 i (by omega)
                  have a2 := e3 i (by omega) (by omega)
                  rw [k1] at a2
                  have a3 := a2.int_inv
                  exact ⟨n, by rw [a1, a3], k2⟩
                · cases hcs
              · cases h
            · cases h
          · cases h
        · cases h
      · cases h
    · cases h
  · cases h

end
end Go.Ab
