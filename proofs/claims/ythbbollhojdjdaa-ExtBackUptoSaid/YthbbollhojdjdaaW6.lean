/- WALKS, 6: a term as bytes. Conditions: lengths below the greatest; a Cons has two parts. -/
import Derived.Test.YthbbollhojdjdaaW5
namespace Go.Proofs.Ythbbollhojdjdaa
open Go.Ab
set_option maxRecDepth 100000
set_option linter.unusedSimpArgs false
set_option linter.unusedVariables false

mutual
/-- A term's bytes. -/
def enc : T → List UInt8
  | .mk kind neg _ l s _ _ k =>
    if kind = 1 then encNum neg l
    else if kind = 2 then 119 :: u8i s.length :: s
    else if kind = 3 then [106]
    else if kind = 4 then 108 :: (be4 (cntK k) ++ (hdsK k ++ tlK k))
    else if kind = 5 then 104 :: u8i k.length :: encKs k
    else 109 :: (be4 s.length ++ s)
def encKs : List T → List UInt8
  | [] => []
  | t :: k => enc t ++ encKs k
/-- How many Cons hang on one of such parts, itself too; their heads' bytes; the last tail's. -/
def cntK : List T → Nat
  | [_, t] => 1 + cntT t
  | _ => 0
def cntT : T → Nat
  | .mk kind _ _ _ _ _ _ k => if kind = 4 then cntK k else 0
def hdsK : List T → List UInt8
  | [h, t] => enc h ++ hdsT t
  | _ => []
def hdsT : T → List UInt8
  | .mk kind _ _ _ _ _ _ k => if kind = 4 then hdsK k else []
def tlK : List T → List UInt8
  | [_, t] => tlT t
  | _ => []
def tlT : T → List UInt8
  | .mk kind neg ln l s n kn k => if kind = 4 then tlK k else
    if kind = 1 then encNum neg l
    else if kind = 2 then 119 :: u8i s.length :: s
    else if kind = 3 then [106]
    else if kind = 5 then 104 :: u8i k.length :: encKs k
    else 109 :: (be4 s.length ++ s)
end

mutual
/-- A Cons has two parts. -/
def wfB : T → Bool
  | .mk kind _ _ _ _ _ _ k => (if kind = 4 then decide (k.length = 2) else true) && wfKs k
def wfKs : List T → Bool
  | [] => true
  | t :: k => wfB t && wfKs k
end

theorem tlT_other {t : T} (h : ¬ t.kind = 4) : tlT t = enc t := by
  cases t
  simp only [T.kind] at h
  rw [tlT, if_neg h, enc]
  split
  · rfl
  · split
    · rfl
    · split
      · rfl
      · rfl
theorem tlT_cons {t : T} (h : t.kind = 4) : tlT t = tlK t.k := by cases t; simp only [T.kind] at h; rw [tlT, if_pos h]; rfl
theorem hdsT_cons {t : T} (h : t.kind = 4) : hdsT t = hdsK t.k := by cases t; simp only [T.kind] at h; rw [hdsT, if_pos h]; rfl
theorem cntT_cons {t : T} (h : t.kind = 4) : cntT t = cntK t.k := by cases t; simp only [T.kind] at h; rw [cntT, if_pos h]; rfl
theorem hdsT_other {t : T} (h : ¬ t.kind = 4) : hdsT t = [] := by cases t; simp only [T.kind] at h; rw [hdsT, if_neg h]
theorem cntT_other {t : T} (h : ¬ t.kind = 4) : cntT t = 0 := by cases t; simp only [T.kind] at h; rw [cntT, if_neg h]

theorem enc_int {t : T} (h : t.kind = 1) : enc t = encNum t.neg t.l := by cases t; simp only [T.kind] at h; subst h; rw [enc]; rfl
theorem enc_atom {t : T} (h : t.kind = 2) : enc t = 119 :: u8i t.s.length :: t.s := by cases t; simp only [T.kind] at h; subst h; rw [enc]; rfl
theorem enc_nil {t : T} (h : t.kind = 3) : enc t = [106] := by cases t; simp only [T.kind] at h; subst h; rw [enc]; rfl
theorem enc_cons {t : T} (h : t.kind = 4) : enc t = 108 :: (be4 (cntT t) ++ (hdsT t ++ tlT t)) := by
  rw [cntT_cons h, hdsT_cons h, tlT_cons h]
  cases t; simp only [T.kind] at h; subst h; rw [enc]; rfl
theorem enc_tuple {t : T} (h : t.kind = 5) : enc t = 104 :: u8i t.k.length :: encKs t.k := by cases t; simp only [T.kind] at h; subst h; rw [enc]; rfl
theorem enc_bin {t : T} (h1 : ¬ t.kind = 1) (h2 : ¬ t.kind = 2) (h3 : ¬ t.kind = 3) (h4 : ¬ t.kind = 4) (h5 : ¬ t.kind = 5) : enc t = 109 :: (be4 t.s.length ++ t.s) := by
  cases t; simp only [T.kind] at *; rw [enc, if_neg h1, if_neg h2, if_neg h3, if_neg h4, if_neg h5]; rfl

theorem wf_kids {t : T} (h : wfB t = true) : wfKs t.k = true := by cases t; rw [wfB, Bool.and_eq_true] at h; exact h.2
theorem wf_mem {x : T} : ∀ {k : List T}, wfKs k = true → x ∈ k → wfB x = true
  | t :: k, h, hx => by
    rw [wfKs, Bool.and_eq_true] at h
    rcases List.mem_cons.1 hx with rfl | hx
    · exact h.1
    · exact wf_mem h.2 hx
theorem wf_cons {t : T} (h : wfB t = true) (h4 : t.kind = 4) : ∃ x y, t.k = [x, y] := by
  cases t with
  | mk kind neg ln l s n kn k =>
    simp only [T.kind] at h4
    rw [wfB, if_pos h4, Bool.and_eq_true] at h
    match k, h with
    | [x, y], _ => exact ⟨x, y, rfl⟩
    | [], h => simp at h
    | [_], h => simp at h
    | _ :: _ :: _ :: _, h => simp at h

/-- What term1 is to do for terms below a size. -/
def Term1 (m : Nat) : Prop := ∀ (a : Option (Bool × Nat)), bOk a → ∀ (b : List UInt8) (t : T), tsz t ≤ m → tsz t ≤ 1000000000 → wfB t = true → b.length + (enc t).length ≤ 100000000000 →
  FDoes Try.prog 28 [bArg a b, tA t] [bOb a b, none] [.ex 0 (b ++ enc t).length 1] [none, none] (some ⟨bce (b ++ enc t), true⟩)

theorem cntT_le : ∀ (m : Nat) (t : T), tsz t ≤ m → cntT t ≤ tsz t
  | 0, t, h => by have := tsz_pos t; omega
  | m + 1, t, h => by
    by_cases h4 : t.kind = 4
    · rw [cntT_cons h4]
      match hk : t.k with
      | [x, y] =>
        have := kid_size (t := t) (x := y) (by rw [hk]; simp)
        have := cntT_le m y (by omega)
        rw [cntK]; omega
      | [] => rw [cntK]; omega; simp
      | [_] => rw [cntK]; omega; simp
      | _ :: _ :: _ :: _ => rw [cntK]; omega; simp
    · rw [cntT_other h4]; omega
end Go.Proofs.Ythbbollhojdjdaa
