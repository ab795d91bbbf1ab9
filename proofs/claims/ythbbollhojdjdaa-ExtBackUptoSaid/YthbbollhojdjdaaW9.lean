/- WALKS, 9: ext.Put; the document's example. Conditions: lengths below the greatest. -/
import Derived.Test.YthbbollhojdjdaaW8
namespace Go.Proofs.Ythbbollhojdjdaa
open Go.Ab
set_option maxRecDepth 100000
set_option linter.unusedSimpArgs false

theorem encNum_len (neg : Bool) (l : List UInt32) : (encNum neg l).length ≤ 51 := by
  have := nbits_le neg l
  unfold encNum
  split
  · simp
  · split
    · simp [be4_length]
    · simp [encBig, bigHead, bigK]; omega

theorem own_str {t : T} (h : ownB t = true) : t.s.length ≤ 400 := by
  simp only [ownB, Bool.and_eq_true] at h
  have hs := h.2.1.1.2
  unfold ownS at hs
  split at hs
  · simp only [nameB, Bool.and_eq_true, decide_eq_true_eq] at hs; omega
  · split at hs
    · simpa using hs
    · have : t.s = [] := by simpa using hs
      rw [this]; simp

mutual
theorem chk_enc : ∀ (t : T) (deep left : Int), (chk t deep left).1 = true → (enc t).length ≤ 410 * tsz t ∧ (hdsT t).length + (tlT t).length ≤ 410 * tsz t
  | .mk kind neg ln l s n kn k, deep, left => by
    rw [chk]
    split
    · simp
    · rename_i hno
      have hown : ownB (.mk kind neg ln l s n kn k) = true := by
        cases h : ownB (.mk kind neg ln l s n kn k) with
        | true => rfl
        | false => exact absurd (.inr (.inr h)) hno
      have hs := own_str hown
      simp only [T.s] at hs
      split
      · rename_i h4
        intro h
        have q := chkC_enc k deep (left - 1) h
        subst h4
        rw [hdsT, if_pos rfl, tlT, if_pos rfl, tsz]
        refine ⟨?_, by omega⟩
        rw [enc]
        simp [be4_length]
        omega
      · rename_i h4
        intro h
        have q := chkKs_enc k (deep + 1) (left - 1) h
        have hn := encNum_len neg l
        have he : (enc (.mk kind neg ln l s n kn k)).length ≤ 410 * tsz (.mk kind neg ln l s n kn k) := by
          rw [tsz, enc]
          split
          · omega
          · split
            · simp; omega
            · split
              · simp; omega
              · split
                · simp; omega
                · simp [be4_length]; omega
        refine ⟨he, ?_⟩
        rw [hdsT_other (t := .mk kind neg ln l s n kn k) h4, tlT_other (t := .mk kind neg ln l s n kn k) h4]
        simpa using he
theorem chkC_enc : ∀ (k : List T) (deep left : Int), (chkC k deep left).1 = true → (hdsK k).length + (tlK k).length ≤ 410 * tszs k
  | [x, y], deep, left => by
    rw [chkC]
    split
    · rename_i hh
      intro h
      have hx := chk_enc x (deep + 1) left hh
      have hy := chk_enc y deep (chk x (deep + 1) left).2 h
      rw [hdsK, tlK]
      simp only [tszs, List.length_append]
      omega
    · simp
  | [], deep, left => by rw [chkC]; simp
  | [_], deep, left => by rw [chkC]; simp
  | _ :: _ :: _ :: _, deep, left => by rw [chkC]; simp
theorem chkKs_enc : ∀ (k : List T) (deep left : Int), (chkKs k deep left).1 = true → (encKs k).length ≤ 410 * tszs k
  | [], deep, left => by simp [encKs]
  | t :: k, deep, left => by
    rw [chkKs]
    split
    · rename_i hh
      intro h
      have ht := chk_enc t deep left hh
      have hk := chkKs_enc k deep (chk t deep left).2 h
      rw [encKs, tszs]
      simp only [List.length_append]
      omega
    · simp
end

theorem chkB_all {t : T} (h : chkB t = true) : wfB t = true ∧ tsz t ≤ 2000 ∧ (enc t).length ≤ 820000 := by
  have h1 := chk_wf t 1 2000 h
  have h2 := (chk_enc t 1 2000 h).1
  have h3 := (chk_left t 1 2000 (by omega)).2.2 h
  exact ⟨h1.1, by omega, by omega⟩

theorem chunk_bce : ∀ (B : List UInt8), chunk 1 B.length (bce B) = bsl B
  | [] => rfl
  | x :: B => by
    have := chunk_bce B
    simp only [List.length_cons, bce_cons, chunk, List.take_succ_cons, List.take_zero, List.drop_succ_cons, List.drop_zero, bsl_cons, this]
theorem seal_bce (hp : HP) (nm : Nm) (B : List UInt8) (v : Bool) (h : hp nm = some ⟨bce B, v⟩) : sealA hp nm 0 B.length 1 = some (.sl false 1 (bsl B) false) := by
  unfold sealA
  rw [h]
  have e : arrCells ⟨bce B, v⟩ 0 B.length 1 = some (bce B) := by
    unfold arrCells
    rw [if_pos (by simp [bce_length])]
    simp [List.take_of_length_le, bce_length]
  simp only [e, bce_nfs, if_true, chunk_bce]

/-- A term behind bytes that are there already. -/
theorem Put_does (n : Bool) (sz : Nat) (f : Bool) (b : List UInt8) (hs : n = true ∨ sz = 1) (t : T) (hb : b.length ≤ 1000000000) (ht : chkB t = true) :
    FDoes Try.prog 10 [.sl n sz (bsl b) f, tA t] [none, none] [.v (.sl false 1 (bsl (b ++ enc t)) false)] [none, none] none := by
  obtain ⟨h1, h2, h3⟩ := chkB_all ht
  refine FDoes.of (E := env) ttok mixed Try.func10 (by kernel_rfl) rfl (by kernel_rfl) (rl := [.tmp 4]) rfl (Nat.le_of_ble_eq_true rfl) false ?_
  have hn : ¬ (b.length : Int) < 0 := by omega
  have hn2 : (0 : Int) ≤ (b.length : Int) := by omega
  have htk : (bsl b).take b.length = bsl b := by rw [← bsl_length b, List.take_length]
  simp only [go_sem, W_cond, W_block, tA_eq]
  have hc := tCheck_does t
  try simp only [go_sem, List.length_append, tA_eq] at hc
  refine WCallR_does hc (by rfl) (by rfl) ?_
  clear hc
  simp only [go_sem, W_cond, W_block, ht, hs, hn, hn2, Nat.sub_zero, htk]
  have hc := term1_does (tsz t) (some (n, sz)) hs b t (Nat.le_refl _) (by omega) h1 (by omega)
  simp only [go_sem, bArg, bOb, tA_eq] at hc
  generalize b ++ enc t = B at hc ⊢
  refine WCallDR_does hc (by rfl) (by rfl) ?_
  clear hc
  have htk2 : (bce B).take B.length = bce B := by rw [← bce_length B, List.take_length]
  simp only [go_sem, W_cond, W_block, htk2, chunk_bce]
  show _ = true
  kernel_rfl

theorem Put_bad (n : Bool) (sz : Nat) (f : Bool) (b : List UInt8) (t : T) (ht : chkB t = false) :
    FDoes Try.prog 10 [.sl n sz (bsl b) f, tA t] [none, none] [.v (.sl n sz (bsl b) f)] [none, none] none := by
  refine FDoes.of (E := env) ttok mixed Try.func10 (by kernel_rfl) rfl (by kernel_rfl) (rl := [.tmp 4]) rfl (Nat.le_of_ble_eq_true rfl) false ?_
  simp only [go_sem, W_cond, W_block, tA_eq]
  have hc := tCheck_does t
  try simp only [go_sem, List.length_append, tA_eq] at hc
  refine WCallR_does hc (by rfl) (by rfl) ?_
  clear hc
  simp only [go_sem, W_cond, W_block, ht]

/-! ### the document's example -/

def exT : T := .mk 4 false true [] [] 0 false [.mk 1 false false [1] [] 0 true [], .mk 3 false true [] [] 0 true []]

end Go.Proofs.Ythbbollhojdjdaa
