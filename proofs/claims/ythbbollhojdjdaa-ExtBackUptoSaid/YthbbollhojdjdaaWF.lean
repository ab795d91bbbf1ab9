/- WALKS, 15: term.List. Conditions: lengths below the greatest. -/
import Derived.Test.YthbbollhojdjdaaL2
namespace Go.Proofs.Ythbbollhojdjdaa
open Go.Ab
set_option maxRecDepth 100000
set_option linter.unusedSimpArgs false
set_option linter.unusedVariables false

def zeroV : Nat → Value
  | 0 => .int .i64 0
  | 1 => .bool false
  | 2 => .slice none 0 0
  | 3 => .string ⟨#[]⟩
  | 4 => .int .i64 0
  | _ => .slice none 0 0

theorem zero_VL (S : SM) : VL S (tC T0) [zeroV 0, zeroV 1, zeroV 2, zeroV 3, zeroV 4, zeroV 5] := by
  rw [tC_T0]
  exact .cons (.int _ _) (.cons (.bool _) (.cons (.slnil _ _) (.cons (.str []) (.cons (.int _ _) (.cons (.slnil _ _) .nil)))))

theorem VLof {S : SM} : ∀ {xs : List AV} {vs : List Value}, xs.length = vs.length → (∀ i (hi : i < xs.length) (hj : i < vs.length), V S xs[i] vs[i]) → VL S xs vs
  | [], [], _, _ => .nil
  | a :: xs, v :: vs, h, hh => .cons (hh 0 (by simp) (by simp)) (VLof (by simpa using h) (fun i hi hj => hh (i + 1) (by simpa using hi) (by simpa using hj)))
  | [], _ :: _, h, _ => by simp at h
  | _ :: _, [], h, _ => by simp at h

theorem List_does (ln f : Bool) (l : List T) (t : T) (hl : l.length ≤ 1000000) : FDoes Try.prog 84 [.sl ln 6 (tKs l) f, tA t] [none, none] [.v (tA (listT l t))] [none, none] none := by
  refine ⟨⟨Try.f84, Try.func84, by kernel_rfl, by kernel_rfl⟩, fun w S ι vs h1 h2 h3 h4 h5 => ?_⟩
  match vs, h1 with
  | [sv, tv], h1 =>
    have hs := (h2 0 (by simp) (by simp)).pure (by rfl)
    have ht := (h2 1 (by simp) (by simp)).pure (tA_nf t)
    simp only [List.getElem_cons_zero, List.getElem_cons_succ] at hs ht
    obtain ⟨t0, t1, t2, t3, t4, t5, rfl, htv⟩ : ∃ t0 t1 t2 t3 t4 t5, tv = .agg #[t0, t1, t2, t3, t4, t5] ∧ VL S (tC t) [t0, t1, t2, t3, t4, t5] := by
      unfold tA at ht
      cases ht with
      | agg _ us hle hh =>
        rw [tC_length] at hle
        match us, hle with
        | [a, b, c, d, e, g], _ => exact ⟨a, b, c, d, e, g, rfl, VLof (by rw [tC_length]; rfl) hh⟩
    obtain ⟨a, cap, g, rfl, hsix, hg⟩ : ∃ a cap g, sv = .slice a l.length cap ∧ Sixes w.heap.size w (.slice a l.length cap) l.length g ∧ ∀ x, VL S (tC (lget l x)) [g x 0, g x 1, g x 2, g x 3, g x 4, g x 5] := by
      cases hl' : tKs l with
      | nil =>
        have hl0 : l = [] := by
          cases l with
          | nil => rfl
          | cons => rw [tKs] at hl'; cases hl'
        subst hl0
        try rw [hl'] at hs
        have hz : ∀ x, VL S (tC (lget [] x)) [zeroV 0, zeroV 1, zeroV 2, zeroV 3, zeroV 4, zeroV 5] := fun x => zero_VL S
        cases hs with
        | slnil => exact ⟨none, 0, fun _ => zeroV, rfl, .inl ⟨_, _, rfl, rfl⟩, hz⟩
        | sl _ _ _ b o cap g k1 k2 k3 k4 k5 sp k6 => exact ⟨_, cap, fun _ => zeroV, rfl, .inl ⟨_, _, rfl, rfl⟩, hz⟩
      | cons e es =>
        try rw [← hl'] at hs
        have hpos : 0 < (tKs l).length := by rw [hl']; simp
        generalize hes : tKs l = es' at *
        cases hs with
        | slnil => simp at hpos
        | sl _ _ _ b o cap g k1 k2 k3 k4 k5 sp k6 =>
          obtain rfl := k6 (by omega)
          subst hes
          have hlen := tKs_length l
          refine ⟨some ⟨b, o, none⟩, cap, fun x j => if x < l.length then g x j else zeroV j, by rw [hlen], .inr ⟨b, o, cap, rfl, fun _ => ?_, fun i j hi hj => ?_⟩, fun x => ?_⟩
          · have := k4 0 0 hpos (by omega)
            unfold scell at this
            cases hb : S b with
            | none => rw [hb] at this; cases this
            | some ob => exact h4.lt hb
          · simp only [if_pos hi]
            exact h4.cell (k4 i j (by rw [hlen]; exact hi) hj)
          · by_cases hx : x < l.length
            · simp only [if_pos hx]
              have hgx : lget l x = l[x] := by simp [lget, hx]
              have hk : (tKs l)[x]'(by rw [hlen]; exact hx) = tC l[x] := by simp [tKs_map]
              rw [hgx, ← hk]
              refine VLof (by rw [k3 x (by rw [hlen]; exact hx)]; rfl) (fun i hi hj => ?_)
              have := k5 x i (by rw [hlen]; exact hx) hi
              have h6 : i < 6 := hj
              have e : [g x 0, g x 1, g x 2, g x 3, g x 4, g x 5][i] = g x i := by
                match i, h6 with
                | 0, _ => rfl
                | 1, _ => rfl
                | 2, _ => rfl
                | 3, _ => rfl
                | 4, _ => rfl
                | 5, _ => rfl
              rw [e]
              exact this
            · simp only [if_neg hx]
              have hgx : lget l x = T0 := by simp [lget, List.getElem?_eq_none (show l.length ≤ x by omega)]
              rw [hgx]
              exact zero_VL S
    have hin := List_in Fence.wide 3 trivial trivial trivial rfl (by omega) a l.length cap g t0 t1 t2 t3 t4 t5 (by omega) w hsix S h4.s_ok l rfl t hg htv
    refine (callsIn_wide.1 hin).mono ?_
    rintro e w' ⟨y0, y1, y2, y3, y4, y5, S', rfl, k1, k2, k3, k4, k5⟩
    refine ⟨[.v (tA (listT l t))], [none, none], none, S', ι, .agg #[y0, y1, y2, y3, y4, y5], ⟨rfl, rfl, rfl⟩, rfl, ⟨[.agg #[y0, y1, y2, y3, y4, y5]], rfl, fun i hi hj => ?_, rfl⟩, k2, fun b o hb => ?_, ILe.refl _, ⟨k4, ?_, ?_⟩, ⟨k5.os, k5.tape, k5.output, k5.size, fun b hb _ => k5.block b hb⟩, ?_, ?_, rfl⟩
    · have : i = 0 := by simpa using hi
      subst this
      exact .v (V.aggL k1)
    · rcases k3 b o hb with h | h
      · exact .inl h
      · exact .inr (.inl h)
    · intro nm ob h
      exfalso
      unfold HPx at h
      split at h
      · rename_i k
        match k, h with
        | 0, h => simp at h
        | 1, h => simp at h
        | k + 2, h => simp at h
      · cases h
      · cases h
    · intro nm nm' ob ob' l1 l2 h
      exfalso
      unfold HPx at h
      split at h
      · rename_i k
        match k, h with
        | 0, h => simp at h
        | 1, h => simp at h
        | k + 2, h => simp at h
      · cases h
      · cases h
    · intro k ob h
      match k, h with
      | 0, h => simp at h
      | 1, h => simp at h
      | k + 2, h => simp at h
    · intro ob h; cases h
end Go.Proofs.Ythbbollhojdjdaa
