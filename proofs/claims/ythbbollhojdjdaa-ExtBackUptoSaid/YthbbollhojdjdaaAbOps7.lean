/- THE ABSTRACT MACHINE, 9: numbers, texts, fields, indexes, slices. Conditions: the table of types is the program's. -/
import Derived.Test.YthbbollhojdjdaaAbOps6
namespace Go.Ab
set_option linter.unusedSimpArgs false

theorem bytes_toList (l : List UInt8) : (⟨l.toArray⟩ : ByteArray).toList = l := by
  rw [Lib.toList_data]

theorem bytes_size (l : List UInt8) : (⟨l.toArray⟩ : ByteArray).size = l.length := by simp [ByteArray.size]

theorem intA_ok {P : Program} {op : BinOp} {t : TypeId} {k : IntKind} {x y : Int} {v : AV} (h : intA op k x y = some v) (hs : op ≠ .shl ∧ op ≠ .shr) (w : World) (S : SM) :
    ∃ val, (binOp op t (.int k x) (.int k y)).run P w = .ok val w ∧ V S v val := by
  cases op <;> simp only [intA] at h <;> first
    | (exact absurd rfl hs.1)
    | (exact absurd rfl hs.2)
    | (cases h; refine ⟨_, ?_, .int _ _⟩; rw [binOp_and]; rfl)
    | (cases h; refine ⟨_, ?_, .int _ _⟩; rw [binOp_or]; rfl)
    | (cases h; refine ⟨_, ?_, .int _ _⟩; rw [binOp_xor]; rfl)
    | (cases h; refine ⟨_, ?_, .int _ _⟩; rw [binOp_andNot]; rfl)
    | (cases h; refine ⟨_, ?_, .int _ _⟩; simp [binOp, Op.intArith]; done)
    | (cases h; refine ⟨_, ?_, .bool _⟩; simp [binOp, Op.intCmp]; done)
    | (split at h
       · cases h
       · rename_i hy; cases h; exact ⟨_, by simp [binOp, Op.intDiv, hy], .int _ _⟩)

theorem shiftA_ok {P : Program} {op : BinOp} {t : TypeId} {k k' : IntKind} {x y : Int} {v : AV} (h : shiftA op k x y = some v) (hs : op = .shl ∨ op = .shr) (w : World) (S : SM) :
    ∃ val, (binOp op t (.int k x) (.int k' y)).run P w = .ok val w ∧ V S v val := by
  unfold shiftA at h
  split at h
  · cases h
  · rename_i hy
    rcases hs with rfl | rfl
    all_goals
      simp only at h
      cases h
      exact ⟨_, by simp [binOp, Op.shift, hy], .int _ _⟩

theorem strA_ok {P : Program} {op : BinOp} {t : TypeId} {x y : List UInt8} {v : AV} (h : strA op x y = some v) (w : World) (S : SM) :
    ∃ val, (binOp op t (.string ⟨x.toArray⟩) (.string ⟨y.toArray⟩)).run P w = .ok val w ∧ V S v val := by
  have hb : ∀ op, binOp op t (.string ⟨x.toArray⟩) (.string ⟨y.toArray⟩) = Op.stringOp op ⟨x.toArray⟩ ⟨y.toArray⟩ := by intro op; cases op <;> rfl
  rw [hb]
  cases op <;> simp only [strA] at h <;> first
    | (cases h; exact ⟨_, by simp [Op.stringOp, bytes_toList], .bool _⟩)
    | (split at h
       · rename_i hl
         cases h
         refine ⟨.string ⟨(x ++ y).toArray⟩, ?_, .str _⟩
         have hn : ¬ ((9223372036854775807 : Int) < (x.length : Int) + (y.length : Int)) := by omega
         have he : (⟨x.toArray⟩ : ByteArray) ++ ⟨y.toArray⟩ = ⟨(x ++ y).toArray⟩ := by
           apply ByteArray.ext; apply Array.ext'; simp
         simp [Op.stringOp, bytes_size, hn, he]
       · cases h)
    | cases h

theorem unA_ok {P : Program} {op : UnOp} {S : SM} {ι : NM} {x v : AV} {xv : Value} (h : unA op x = some v) (hx : VT S ι x xv) (w : World) :
    ∃ val, (Op.unary op xv).run P w = .ok val w ∧ V S v val := by
  unfold unA at h
  split at h
  · cases h
    have := hx.int_inv; subst this
    exact ⟨_, by simp [Op.unary, Op.intArith], .int _ _⟩
  · cases h
    have := hx.int_inv; subst this
    refine ⟨_, ?_, .int _ _⟩
    show (Op.intBits .xor _ _ _).run P w = _
    rfl
  · cases h
    have := hx.bool_inv; subst this
    exact ⟨_, by simp [Op.unary], .bool _⟩
  · cases h

theorem fold_max {P : Program} {S : SM} {ι : NM} {k : IntKind} (w : World) : ∀ (l : List AV) (x : Int) (v : AV) (vs : List Value), foldInt (fun x y => if y > x then y else x) k x l = some v → l.length = vs.length →
    (∀ i (h1 : i < l.length) (h2 : i < vs.length), VT S ι l[i] vs[i]) → ∃ val, (vs.foldlM Builtin.max2 (.int k x)).run P w = .ok val w ∧ V S v val
  | [], x, v, [], h, _, _ => by simp only [foldInt, Option.some.injEq] at h; subst h; exact ⟨_, by simp, .int _ _⟩
  | [], _, _, _ :: _, _, hl, _ => by simp at hl
  | _ :: _, _, _, [], _, hl, _ => by simp at hl
  | a :: l, x, v, u :: vs, h, hl, hv => by
    have h0 := hv 0 (by simp) (by simp)
    simp only [List.getElem_cons_zero] at h0
    cases a <;> simp only [foldInt] at h <;> first | (cases h; done) | skip
    have := h0.int_inv; subst this
    obtain ⟨val, h1, h2⟩ := fold_max w l _ v vs h (by simpa using hl) (fun i h1 h2 => hv (i + 1) (by simpa using h1) (by simpa using h2))
    exact ⟨val, by simpa [Builtin.max2] using h1, h2⟩

theorem fold_min {P : Program} {S : SM} {ι : NM} {k : IntKind} (w : World) : ∀ (l : List AV) (x : Int) (v : AV) (vs : List Value), foldInt (fun x y => if y < x then y else x) k x l = some v → l.length = vs.length →
    (∀ i (h1 : i < l.length) (h2 : i < vs.length), VT S ι l[i] vs[i]) → ∃ val, (vs.foldlM Builtin.min2 (.int k x)).run P w = .ok val w ∧ V S v val
  | [], x, v, [], h, _, _ => by simp only [foldInt, Option.some.injEq] at h; subst h; exact ⟨_, by simp, .int _ _⟩
  | [], _, _, _ :: _, _, hl, _ => by simp at hl
  | _ :: _, _, _, [], _, hl, _ => by simp at hl
  | a :: l, x, v, u :: vs, h, hl, hv => by
    have h0 := hv 0 (by simp) (by simp)
    simp only [List.getElem_cons_zero] at h0
    cases a <;> simp only [foldInt] at h <;> first | (cases h; done) | skip
    have := h0.int_inv; subst this
    obtain ⟨val, h1, h2⟩ := fold_min w l _ v vs h (by simpa using hl) (fun i h1 h2 => hv (i + 1) (by simpa using h1) (by simpa using h2))
    exact ⟨val, by simpa [Builtin.min2] using h1, h2⟩

section
variable {P : Program} {tt : TypeId → Option TI} (hT : TTok P tt)
include hT

omit hT in
theorem eq_bool {t : TypeId} {d : TypeDesc} (hd : P.underlying t = some d) (hb : d = .bool) (a b : Bool) (w : World) : (Op.equal t (.bool a) (.bool b)).run P w = .ok (a == b) w := by
  subst hb
  have key : ∀ n, (Op.equalIn (n + 1) t (.bool a) (.bool b)).run P w = .ok (a == b) w := fun n => by simp [Op.equalIn, run_underlying hd]
  exact key 9999

omit hT in
theorem eq_slice {t e : TypeId} (hd : P.underlying t = some (.slice e)) (b : Option Addr) (n m : Nat) (w : World) : (Op.equal t (.slice none 0 0) (.slice b n m)).run P w = .ok b.isNone w := by
  have key : ∀ k, (Op.equalIn (k + 1) t (.slice none 0 0) (.slice b n m)).run P w = .ok b.isNone w := fun k => by simp [Op.equalIn, run_underlying hd]
  exact key 9999

omit hT in
theorem eq_slice2 {t e : TypeId} (hd : P.underlying t = some (.slice e)) (a : Addr) (n m : Nat) (w : World) : (Op.equal t (.slice (some a) n m) (.slice none 0 0)).run P w = .ok false w := by
  have key : ∀ k, (Op.equalIn (k + 1) t (.slice (some a) n m) (.slice none 0 0)).run P w = .ok false w := fun k => by simp [Op.equalIn, run_underlying hd]
  exact key 9999

omit hT in
theorem eq_ptr {t e : TypeId} (hd : P.underlying t = some (.pointer e)) (b : Option Addr) (w : World) : (Op.equal t (.pointer none) (.pointer b)).run P w = .ok b.isNone w := by
  have key : ∀ k, (Op.equalIn (k + 1) t (.pointer none) (.pointer b)).run P w = .ok b.isNone w := fun k => by simp [Op.equalIn, run_underlying hd]
  exact key 9999

omit hT in
theorem eq_ptr2 {t e : TypeId} (hd : P.underlying t = some (.pointer e)) (a : Addr) (w : World) : (Op.equal t (.pointer (some a)) (.pointer none)).run P w = .ok false w := by
  have key : ∀ k, (Op.equalIn (k + 1) t (.pointer (some a)) (.pointer none)).run P w = .ok false w := fun k => by simp [Op.equalIn, run_underlying hd]
  exact key 9999

theorem eqA_ok {S : SM} {ι : NM} {t : TypeId} {ti : TI} (ht : tt t = some ti) {x y : AV} {r : Bool} (h : eqA ti.desc x y = some r) {xv yv : Value} (hx : VT S ι x xv) (hy : VT S ι y yv) (w : World) :
    (∀ op a b, (eqGuard op t a b xv yv).run P w = .ok () w) ∧ (∀ op, op = .eql ∨ op = .neq → (binOp op t xv yv).run P w = .ok (.bool (if op = .eql then r else !r)) w) := by
  obtain ⟨d, hd, hdo⟩ := (hT t ti ht).under
  have fin : (Op.equal t xv yv).run P w = .ok r w → (∀ op, op = .eql ∨ op = .neq → binOp op t xv yv = (if op = .eql then (do pure (.bool (← Op.equal t xv yv))) else (do pure (.bool (!(← Op.equal t xv yv)))))) →
      ∀ op, op = .eql ∨ op = .neq → (binOp op t xv yv).run P w = .ok (.bool (if op = .eql then r else !r)) w := by
    intro h1 h2 op ho
    rw [h2 op ho]
    rcases ho with rfl | rfl <;> simp [h1]
  unfold eqA at h
  split at h
  · rename_i a b hdd
    rw [hdd] at hdo; simp only [descOk] at hdo; subst hdo
    have := hx.bool_inv; subst this
    have := hy.bool_inv; subst this
    cases h
    exact ⟨fun op _ _ => by rw [eqGuard_at_bool]; rfl, fin (eq_bool hd rfl a b w) (by intro op ho; rcases ho with rfl | rfl <;> rfl)⟩
  · rename_i e n sz es full m sz' es' full' hdd
    rw [hdd] at hdo; simp only [descOk] at hdo; subst hdo
    split at h
    · rename_i hnm
      cases h
      rcases hx.sl_inv with ⟨rfl, _, rfl⟩ | ⟨rfl, b, o, sp, cap, f, rfl, _⟩
      · rcases hy.sl_inv with ⟨rfl, _, rfl⟩ | ⟨rfl, b', o', sp', cap', f', rfl, _⟩
        · exact ⟨fun op _ _ => by rw [eqGuard_at_slice]; rfl, fin (eq_slice hd _ _ _ w) (by intro op ho; rcases ho with rfl | rfl <;> rfl)⟩
        · exact ⟨fun op _ _ => by rw [eqGuard_at_slice]; rfl, fin (eq_slice hd _ _ _ w) (by intro op ho; rcases ho with rfl | rfl <;> rfl)⟩
      · rcases hy.sl_inv with ⟨rfl, _, rfl⟩ | ⟨rfl, b', o', sp', cap', f', rfl, _⟩
        · exact ⟨fun op _ _ => by rw [eqGuard_at_slice]; rfl, fin (eq_slice2 hd _ _ _ w) (by intro op ho; rcases ho with rfl | rfl <;> rfl)⟩
        · simp at hnm
    · cases h
  · rename_i e nm off len sz m sz' es' full' hdd
    rw [hdd] at hdo; simp only [descOk] at hdo; subst hdo
    split at h
    · rename_i hm
      subst hm
      cases h
      obtain ⟨l, o, cap, q1, rfl, _⟩ := hx.arr_inv
      rcases hy.sl_inv with ⟨_, _, rfl⟩ | ⟨h, _⟩
      · exact ⟨fun op _ _ => by rw [eqGuard_at_slice]; rfl, fin (eq_slice2 hd _ _ _ w) (by intro op ho; rcases ho with rfl | rfl <;> rfl)⟩
      · cases h
    · cases h
  · rename_i e n sz' es' full' nm off len sz hdd
    rw [hdd] at hdo; simp only [descOk] at hdo; subst hdo
    split at h
    · rename_i hm
      subst hm
      cases h
      obtain ⟨l, o, cap, q1, rfl, _⟩ := hy.arr_inv
      rcases hx.sl_inv with ⟨_, _, rfl⟩ | ⟨h, _⟩
      · exact ⟨fun op _ _ => by rw [eqGuard_at_slice]; rfl, fin (eq_slice hd _ _ _ w) (by intro op ho; rcases ho with rfl | rfl <;> rfl)⟩
      · cases h
    · cases h
  · rename_i e hdd
    rw [hdd] at hdo; simp only [descOk] at hdo; subst hdo
    cases h
    cases hx with | v hx => cases hx; cases hy with | v hy => cases hy; exact ⟨fun op _ _ => by rw [eqGuard_at_pointer]; rfl, fin (eq_ptr hd _ w) (by intro op ho; rcases ho with rfl | rfl <;> rfl)⟩
  · rename_i e nm off hdd
    rw [hdd] at hdo; simp only [descOk] at hdo; subst hdo
    cases h
    obtain ⟨l, hl, rfl⟩ := hx.ref_inv
    cases hy with | v hy => cases hy; exact ⟨fun op _ _ => by rw [eqGuard_at_pointer]; rfl, fin (eq_ptr2 hd _ w) (by intro op ho; rcases ho with rfl | rfl <;> rfl)⟩
  · rename_i e nm off hdd
    rw [hdd] at hdo; simp only [descOk] at hdo; subst hdo
    cases h
    obtain ⟨l, hl, rfl⟩ := hy.ref_inv
    cases hx with | v hx => cases hx; exact ⟨fun op _ _ => by rw [eqGuard_at_pointer]; rfl, fin (eq_ptr hd _ w) (by intro op ho; rcases ho with rfl | rfl <;> rfl)⟩
  · cases h

theorem binA_ok {S : SM} {ι : NM} {op : BinOp} {t : TypeId} {x y v : AV} (h : binA tt op t x y = some v) {xv yv : Value} (hx : VT S ι x xv) (hy : VT S ι y yv) (a b : Operand) (w : World) :
    ∃ val, (do eqGuard op t a b xv yv; binOp op t xv yv : Sem Value).run P w = .ok val w ∧ VT S ι v val := by
  unfold binA at h
  split at h
  · rename_i k n k' m
    have := hx.int_inv; subst this
    have := hy.int_inv; subst this
    split at h
    · obtain ⟨val, h1, h2⟩ := shiftA_ok (P := P) (t := t) (k' := k') h (.inl rfl) w S
      exact ⟨val, by simpa [eqGuard_at_int] using h1, .v h2⟩
    · obtain ⟨val, h1, h2⟩ := shiftA_ok (P := P) (t := t) (k' := k') h (.inr rfl) w S
      exact ⟨val, by simpa [eqGuard_at_int] using h1, .v h2⟩
    · rename_i h1 h2
      split at h
      · rename_i hk
        subst hk
        obtain ⟨val, g1, g2⟩ := intA_ok (P := P) (t := t) h ⟨fun e => h1 e, fun e => h2 e⟩ w S
        exact ⟨val, by simpa [eqGuard_at_int] using g1, .v g2⟩
      · cases h
  · rename_i l m
    have := hx.str_inv; subst this
    have := hy.str_inv; subst this
    obtain ⟨val, g1, g2⟩ := strA_ok (P := P) (t := t) h w S
    exact ⟨val, by simpa [eqGuard_at_string] using g1, .v g2⟩
  · cases ht : tt t with
    | none => rw [ht] at h; cases h
    | some ti =>
      rw [ht] at h
      simp only at h
      split at h
      · rw [Option.map_eq_some_iff] at h
        obtain ⟨r, hr, rfl⟩ := h
        obtain ⟨g1, g2⟩ := eqA_ok hT ht hr hx hy w
        exact ⟨_, by simp only [Sem.run_bind, g1, Result.andThen_ok]; exact g2 .eql (.inl rfl), .v (.bool _)⟩
      · rw [Option.map_eq_some_iff] at h
        obtain ⟨r, hr, rfl⟩ := h
        obtain ⟨g1, g2⟩ := eqA_ok hT ht hr hx hy w
        exact ⟨_, by simp only [Sem.run_bind, g1, Result.andThen_ok]; exact g2 .neq (.inr rfl), .v (.bool _)⟩
      · cases h

theorem fieldAddrA_ok {S : SM} {ι : NM} (w : World) {t : TypeId} {x v : AV} {i : Nat} (h : fieldAddrA tt t x i = some v) {xv : Value} (hx : VT S ι x xv) :
    ∃ val, (Instr.fieldAt t xv i).run P w = .ok val w ∧ VT S ι v val := by
  unfold fieldAddrA at h
  cases ht : tt t with
  | none => rw [ht] at h; cases h
  | some ti =>
    rw [ht] at h
    simp only at h
    obtain ⟨d, hd, hdo⟩ := (hT t ti ht).under
    split at h
    · rename_i fs hfs
      rw [hfs] at hdo
      obtain ⟨F, rfl, hF⟩ := hdo
      split at h
      · cases h
      · rename_i off ft hft
        split at h
        · cases h
        · rename_i fi hfi
          split at h
          · cases h
          · rename_i hsz
            rw [← hF] at hft
            simp only [List.getElem?_map, Option.map_eq_some_iff, Prod.mk.injEq] at hft
            obtain ⟨f, g3, rfl, rfl⟩ := hft
            have g4 : F[i]? = some f := by simpa using g3
            have hso := run_sizeOf hT hfi
            split at h
            · rename_i nm o
              cases h
              obtain ⟨l, hl, rfl⟩ := hx.ref_inv
              refine ⟨.pointer (some ⟨l.blk, o + f.offset, none⟩), ?_, .ref _ _ l hl⟩
              simp [Instr.fieldAt, run_underlying hd, g4, Instr.sureAddr, fieldPlace, hso, hsz, addr_add]
            · rename_i cs
              cases h
              cases hx with
              | v hx => cases hx
              | pc _ b o ff h1 h2 =>
                refine ⟨.pointer (some ⟨b, o + f.offset, none⟩), ?_, .pc _ b (o + f.offset) (fun j => ff (f.offset + j)) (fun j hj => ?_) (fun j hj => ?_)⟩
                · simp [Instr.fieldAt, run_underlying hd, g4, Instr.sureAddr, fieldPlace, hso, hsz, addr_add]
                · rw [Nat.add_assoc]; exact h1 _ (by simp at hj; omega)
                · simp only [List.getElem_drop]; exact h2 _ (by simp at hj; omega)
            · cases h
    · cases h

theorem partA_ok {S : SM} {ι : NM} {t : TypeId} {ti : TI} (ht : tt t = some ti) {cs : List AV} {vs : List Value} (hl : cs.length = vs.length) (hv : ∀ i (hi : i < cs.length) (hj : i < vs.length), VT S ι cs[i] vs[i]) {off : Nat} {v : AV}
    (h : partA ti cs off = some v) (w : World) : ∃ val, (part t vs.toArray off).run P w = .ok val w ∧ VT S ι v val := by
  unfold partA takeA at h
  split at h
  · rename_i hag
    split at h
    · rename_i hsz
      cases h
      refine ⟨.agg (vs.toArray.extract off (off + ti.size)), ?_, ?_⟩
      · simp [part, run_isAgg hT ht, hag, run_sizeOf hT ht]
      · have := VT.agg (S := S) (ι := ι) ((cs.drop off).take ti.size) ((vs.drop off).take ti.size) (by simp; omega) (fun i hi hj => by
          simp only [List.getElem_take, List.getElem_drop]
          exact hv _ (by simp at hi; omega) (by simp at hj; omega))
        have e : ((vs.drop off).take ti.size).toArray = vs.toArray.extract off (off + ti.size) := by
          apply Array.ext'
          simp
        rw [e] at this
        exact this
    · cases h
  · rename_i hag
    split at h
    · rename_i c l hc
      cases h
      have hlt : off < cs.length := by
        rcases Nat.lt_or_ge off cs.length with hh | hh
        · exact hh
        · rw [List.drop_eq_nil_of_le hh] at hc; cases hc
      have hlt2 : off < vs.length := by omega
      have he : v = cs[off] := by
        rw [List.drop_eq_getElem_cons hlt] at hc
        cases hc; rfl
      refine ⟨vs[off], ?_, by rw [he]; exact hv off hlt hlt2⟩
      simp [part, run_isAgg hT ht, hag, hlt2]
    · cases h

theorem fieldA_ok {S : SM} {ι : NM} {t : TypeId} {x v : AV} {i : Nat} (h : fieldA tt t x i = some v) {xv : Value} (hx : VT S ι x xv) (w : World) :
    ∃ val, (Instr.field t xv i).run P w = .ok val w ∧ VT S ι v val := by
  unfold fieldA at h
  cases ht : tt t with
  | none => rw [ht] at h; cases h
  | some ti =>
    rw [ht] at h
    simp only at h
    obtain ⟨d, hd, hdo⟩ := (hT t ti ht).under
    split at h
    · rename_i fs hfs
      rw [hfs] at hdo
      obtain ⟨F, rfl, hF⟩ := hdo
      split at h
      · cases h
      · rename_i off ft hft
        split at h
        · cases h
        · rename_i fi hfi
          split at h
          · rename_i cs
            rw [← hF] at hft
            simp only [List.getElem?_map, Option.map_eq_some_iff, Prod.mk.injEq] at hft
            obtain ⟨f, g3, rfl, rfl⟩ := hft
            have g4 : F[i]? = some f := by simpa using g3
            obtain ⟨vs, rfl, hl, hv⟩ := hx.agg_inv
            obtain ⟨val, h1, h2⟩ := partA_ok hT hfi hl hv h w
            exact ⟨val, by simpa [Instr.field, run_underlying hd, g4, asAgg] using h1, h2⟩
          · cases h
    · cases h

theorem lenA_ok {S : SM} {ι : NM} {t ty : TypeId} {x v : AV} (h : lenA tt t x = some v) {xv : Value} (hx : VT S ι x xv) (w : World) :
    ∃ val, (Builtin.len_ #[t] ty #[xv]).run P w = .ok val w ∧ VT S ι v val := by
  unfold lenA at h
  cases ht : tt t with
  | none => rw [ht] at h; cases h
  | some ti =>
    rw [ht] at h
    simp only at h
    obtain ⟨d, hd, hdo⟩ := (hT t ti ht).under
    split at h
    · rename_i l hdd
      rw [hdd] at hdo; simp only [descOk] at hdo; subst hdo
      cases h
      have := hx.str_inv; subst this
      exact ⟨_, by simp [Builtin.len_, run_underlying hd, bytes_size, goInt], .v (.int _ _)⟩
    · rename_i e n sz es full hdd
      rw [hdd] at hdo; simp only [descOk] at hdo; subst hdo
      cases h
      rcases hx.sl_inv with ⟨rfl, rfl, rfl⟩ | ⟨rfl, b, o, sp, cap, f, rfl, _⟩
      · exact ⟨_, by simp [Builtin.len_, run_underlying hd, goInt], .v (.int _ _)⟩
      · exact ⟨_, by simp [Builtin.len_, run_underlying hd, goInt], .v (.int _ _)⟩
    · rename_i e nm off len sz hdd
      rw [hdd] at hdo; simp only [descOk] at hdo; subst hdo
      cases h
      obtain ⟨l, o, cap, q1, rfl, _⟩ := hx.arr_inv
      exact ⟨_, by simp [Builtin.len_, run_underlying hd, goInt], .v (.int _ _)⟩
    · rename_i n e hdd
      rw [hdd] at hdo; simp only [descOk] at hdo; subst hdo
      cases h
      exact ⟨_, by simp [Builtin.len_, run_underlying hd, goInt], .v (.int _ _)⟩
    · cases h

end
end Go.Ab
