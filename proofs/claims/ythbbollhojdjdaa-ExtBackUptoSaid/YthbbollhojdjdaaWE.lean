/- WALKS, 14: the reader's plain terms: what they read, as a function of the bytes. Conditions: the place lies in the bytes. -/
import Derived.Test.YthbbollhojdjdaaWD
namespace Go.Proofs.Ythbbollhojdjdaa
open Go.Ab
set_option maxRecDepth 100000
set_option linter.unusedSimpArgs false
set_option linter.unusedVariables false

/-! ### what is read -/

def slc (B : List UInt8) (p n : Nat) : List UInt8 := (B.drop p).take n
def rTake (B : List UInt8) (n pos : Nat) : Except Int (List UInt8) := if pos + n ≤ B.length then .ok (slc B pos n) else .error 3
def rMany (B : List UInt8) (k : Nat) (least most : Int) (pos : Nat) : Except Int Nat :=
  if pos + k ≤ B.length then (if (beV (slc B pos k) : Int) < least ∨ (beV (slc B pos k) : Int) > most then .error 4 else .ok (beV (slc B pos k))) else .error 3

def T0 : T := .mk 0 false true [] [] 0 true []
def numT (v : Int) : T := .mk 1 (ofN v) (emp (ofL v)) (ofL v) [] 0 true []
def bigT : List UInt8 → T
  | s :: b => .mk 1 (decide (s = 1)) false (bigL b) [] 0 true []
  | [] => .mk 1 false true [] [] 0 true []
def atomT (s : List UInt8) : T := .mk 2 false true [] s 0 true []
def binT (s : List UInt8) : T := .mk 6 false true [] s 0 true []
def nilT : T := .mk 3 false true [] [] 0 true []
def i32v (n : Nat) : Int := if n < 2147483648 then n else (n : Int) - 4294967296

def rPre (B : List UInt8) (tag : UInt8) (pos : Nat) : Except Int (T × Nat) :=
  if tag = 97 then (match rTake B 1 pos with | .ok l => .ok (numT (beV l), pos + 1) | .error c => .error c)
  else if tag = 98 then (match rTake B 4 pos with | .ok l => .ok (numT (i32v (beV l)), pos + 4) | .error c => .error c)
  else if tag = 110 then (match rMany B 1 1 48 pos with
    | .ok n => (match rTake B (1 + n) (pos + 1) with | .ok l => .ok (bigT l, pos + 1 + (1 + n)) | .error c => .error c)
    | .error c => .error c)
  else if tag = 119 then (match rMany B 1 1 40 pos with
    | .ok n => (match rTake B n (pos + 1) with | .ok l => .ok (atomT l, pos + 1 + n) | .error c => .error c)
    | .error c => .error c)
  else if tag = 109 then (match rMany B 4 0 400 pos with
    | .ok n => (match rTake B n (pos + 4) with | .ok l => .ok (binT l, pos + 4 + n) | .error c => .error c)
    | .error c => .error c)
  else .ok (nilT, pos)

def rFin (B : List UInt8) (frm : Nat) (terms : Int) : Except Int (T × Nat) → Except Int (T × Nat × Int)
  | .error c => .error c
  | .ok (t, p) => if chkB t = true ∧ enc t = slc B frm (p - frm) then .ok (t, p, terms) else .error 4
def rPlain (B : List UInt8) (tag : UInt8) (frm : Nat) (terms : Int) : Except Int (T × Nat × Int) := rFin B frm terms (rPre B tag (frm + 1))

def Res {α : Type} (r : Except Int α) (a : α) (e' : Int) : Prop := match r with
  | .ok b => a = b ∧ e' = 0
  | .error c => e' = c ∧ ¬ c = 0

/-- A term is read: what is handed back, how the reader stands. -/
def TermQ (tl : List (Option Ob)) (bn : Bool) (B : List UInt8) (r : Except Int (T × Nat × Int)) : List RV → List (Option Ob) → Option Ob → Prop :=
  fun rs objs' ex => ∃ t pos' terms' e', rs = [.v (tA t)] ∧ objs' = some ⟨rdC bn B pos' terms' e', true⟩ :: tl ∧ ex = none ∧ Res r (t, pos', terms') e'

theorem rTake_ok {B : List UInt8} {n pos : Nat} {l : List UInt8} (h : rTake B n pos = .ok l) : pos + n ≤ B.length ∧ l = slc B pos n ∧ l.length = n := by
  unfold rTake at h
  split at h
  · cases h
    exact ⟨by assumption, rfl, by simp [slc]; omega⟩
  · cases h
theorem rTake_err {B : List UInt8} {n pos : Nat} {c : Int} (h : rTake B n pos = .error c) : B.length < pos + n ∧ c = 3 := by
  unfold rTake at h
  split at h
  · cases h
  · cases h; exact ⟨by omega, rfl⟩

/-- How many, as it is read. -/
theorem many_ok {bn : Bool} {B : List UInt8} {pos : Nat} {terms : Int} {k : Nat} {least most : Int} (hB : B.length ≤ 1000000000) (hk : k ≤ 4) {n : Nat} (h : rMany B k least most pos = .ok n) :
    FDoes Try.prog 58 [.ref (.arg 0) 0, .int .i64 k, .int .i64 least, .int .i64 most] [some ⟨rdC bn B pos terms 0, true⟩, none, none, none] [.v (.int .i64 n)] [some ⟨rdC bn B (pos + k) terms 0, true⟩, none, none, none] none := by
  unfold rMany at h
  split at h
  · split at h
    · cases h
    · rename_i h1 h2
      cases h
      have := many_walk bn B pos terms k least most hB hk h1 _ rfl true (by simp [slc] at h2 ⊢; omega)
      simpa [slc] using this
  · cases h
theorem many_err {bn : Bool} {B : List UInt8} {pos : Nat} {terms : Int} {k : Nat} {least most : Int} (hB : B.length ≤ 1000000000) (hp : pos ≤ B.length) (hk : k ≤ 4) {c : Int} (h : rMany B k least most pos = .error c) :
    ¬ c = 0 ∧ ∃ pos', pos' ≤ B.length ∧ FDoes Try.prog 58 [.ref (.arg 0) 0, .int .i64 k, .int .i64 least, .int .i64 most] [some ⟨rdC bn B pos terms 0, true⟩, none, none, none] [.v (.int .i64 0)] [some ⟨rdC bn B pos' terms c, true⟩, none, none, none] none := by
  unfold rMany at h
  split at h
  · split at h
    · rename_i h1 h2
      cases h
      have := many_walk bn B pos terms k least most hB hk h1 _ rfl false (by simp [slc] at h2 ⊢; omega)
      exact ⟨by decide, pos + k, h1, by simpa using this⟩
    · cases h
  · rename_i h1
    cases h
    have := many_short bn B pos terms 0 k least most hB hp hk (.inr (by omega))
    exact ⟨by decide, pos, hp, by simpa using this⟩
theorem rMany_le {B : List UInt8} {k : Nat} {least most : Int} {pos n : Nat} (h : rMany B k least most pos = .ok n) : pos + k ≤ B.length ∧ least ≤ n ∧ (n : Int) ≤ most := by
  unfold rMany at h
  split at h
  · split at h
    · cases h
    · cases h; omega
  · cases h

theorem rPre_le {B : List UInt8} {tag : UInt8} {pos : Nat} (hp : pos ≤ B.length) {t : T} {p : Nat} (h : rPre B tag pos = .ok (t, p)) : pos ≤ p ∧ p ≤ B.length := by
  unfold rPre at h
  have many : ∀ {k m : Nat} {a b : Int} {f : List UInt8 → T} {g : Nat → Nat}, (∀ n, n ≤ g n) → (match rMany B k a b pos with
    | .ok n => (match rTake B (g n) (pos + k) with | .ok l => Except.ok (f l, pos + k + g n) | .error c => .error c)
    | .error c => .error c) = .ok (t, p) → pos ≤ p ∧ p ≤ B.length := by
    intro k m a b f g hg h
    cases h1 : rMany B k a b pos with
    | error c => rw [h1] at h; cases h
    | ok n =>
      rw [h1] at h
      simp only at h
      cases h2 : rTake B (g n) (pos + k) with
      | error c => rw [h2] at h; cases h
      | ok l =>
        rw [h2] at h
        cases h
        have := rTake_ok h2
        omega
  have tk : ∀ {k : Nat} {f : List UInt8 → T}, (match rTake B k pos with | .ok l => Except.ok (f l, pos + k) | .error c => .error c) = .ok (t, p) → pos ≤ p ∧ p ≤ B.length := by
    intro k f h
    cases h2 : rTake B k pos with
    | error c => rw [h2] at h; cases h
    | ok l =>
      rw [h2] at h
      cases h
      have := rTake_ok h2
      omega
  split at h
  · exact tk h
  · split at h
    · exact tk h
    · split at h
      · exact many (m := 0) (g := fun n => 1 + n) (fun n => by omega) h
      · split at h
        · exact many (m := 0) (g := fun n => n) (fun n => by omega) h
        · split at h
          · exact many (m := 0) (g := fun n => n) (fun n => by omega) h
          · cases h; omega

/-! ### the walk -/

theorem or_add32 (a x k : Nat) (h : x < 2 ^ k) (hlt : a * 2 ^ k + x < 4294967296) : bitsA .or .u32 ((a * 2 ^ k : Nat) : Int) (x : Int) = ((a * 2 ^ k + x : Nat) : Int) := by
  show IntKind.u32.wrap (((BitVec.ofInt 32 ((a * 2 ^ k : Nat) : Int) ||| BitVec.ofInt 32 (x : Int)).toNat : Nat) : Int) = _
  have e : ∀ n : Nat, BitVec.ofInt 32 (n : Int) = BitVec.ofNat 32 n := by intro n; simp
  have : (BitVec.ofInt 32 ((a * 2 ^ k : Nat) : Int) ||| BitVec.ofInt 32 (x : Int)).toNat = a * 2 ^ k + x := by
    rw [e, e, BitVec.toNat_or, BitVec.toNat_ofNat, BitVec.toNat_ofNat, Nat.mod_eq_of_lt (by omega), Nat.mod_eq_of_lt (by omega)]
    have := Nat.two_pow_add_eq_or_of_lt (i := k) (b := x) h a
    rw [Nat.mul_comm a, ← this]
  rw [this]
  show ((a * 2 ^ k + x : Nat) : Int) % 4294967296 = _
  omega

theorem bsl_drop (l : List UInt8) (n : Nat) : (bsl l).drop n = bsl (l.drop n) := by simp [bsl]
theorem bsl_take (l : List UInt8) (n : Nat) : (bsl l).take n = bsl (l.take n) := by simp [bsl]
theorem lsl_nil : lsl [] = [] := rfl

theorem u8_eq (x : UInt8) (n : Nat) (h : n < 256) : ((x.toNat : Int) = (n : Int)) = (x = UInt8.ofNat n) := by
  apply propext
  constructor
  · intro e
    apply UInt8.toNat_inj.1
    rw [UInt8.toNat_ofNat']; omega
  · rintro rfl
    rw [UInt8.toNat_ofNat']; omega

theorem take_at {bn : Bool} {B : List UInt8} {pos : Nat} {terms : Int} {n : Nat} {l : List UInt8} (hB : B.length ≤ 1000000000) (h : rTake B n pos = .ok l) (z : Int) (hz : z = n) :
    FDoes Try.prog 53 [.ref (.arg 0) 0, .int .i64 z] [some ⟨rdC bn B pos terms 0, true⟩, none] [.v (.sl bn 1 (bsl l) true)] [some ⟨rdC bn B (pos + n) terms 0, true⟩, none] none := by
  obtain ⟨h1, h2, h3⟩ := rTake_ok h
  rw [hz, h2]
  exact take_ok bn B pos terms n hB h1
theorem take_not {bn : Bool} {B : List UInt8} {pos : Nat} {terms : Int} {n : Nat} {c : Int} (hB : B.length ≤ 1000000000) (hp : pos ≤ B.length) (h : rTake B n pos = .error c) (z : Int) (hz : z = n) :
    FDoes Try.prog 53 [.ref (.arg 0) 0, .int .i64 z] [some ⟨rdC bn B pos terms 0, true⟩, none] [.v (.sl true 1 [] true)] [some ⟨rdC bn B pos terms 3, true⟩, none] none := by
  obtain ⟨h1, h2⟩ := rTake_err h
  rw [hz]
  exact take_bad bn B pos terms 0 n hB hp (.inr h1)
theorem take_e {bn : Bool} {B : List UInt8} {pos : Nat} {terms e : Int} (he : ¬ e = 0) (z : Int) :
    FDoes Try.prog 53 [.ref (.arg 0) 0, .int .i64 z] [some ⟨rdC bn B pos terms e, true⟩, none] [.v (.sl true 1 [] true)] [some ⟨rdC bn B pos terms e, true⟩, none] none := by
  refine FDoes.weak (rs := [.v (.sl true 0 [] true)]) ?_ (.v (.nil _ _ _ _) .nil)
  refine FDoes.of (E := env) ttok mixed Try.func53 (by kernel_rfl) rfl (by kernel_rfl) (rl := [.tmp 4]) rfl (Nat.le_of_ble_eq_true rfl) false ?_
  simp only [go_sem, W_cond, W_block, rdC, he]
  have hc := fail_does bn B pos terms e 3
  try simp only [go_sem, List.length_append, rdC, he] at hc
  refine WCallR_does hc (by rfl) (by rfl) ?_
  clear hc
  simp only [go_sem, W_cond, W_block]

theorem tC_num (v : Int) : tC (numT v) = [.int .i64 1, .bool (ofN v), .sl (emp (ofL v)) 1 (lsl (ofL v)) false, .str [], .int .i64 0, .sl true 6 [] false] := by simp only [numT, tC, tKs]
theorem tC_int0 : tC (.mk 1 false true [] [] 0 true []) = [.int .i64 1, .bool false, .sl true 1 [] false, .str [], .int .i64 0, .sl true 6 [] false] := by simp only [tC, tKs, lsl_nil]
theorem tC_T0 : tC T0 = [.int .i64 0, .bool false, .sl true 1 [] false, .str [], .int .i64 0, .sl true 6 [] false] := by simp only [T0, tC, tKs, lsl_nil]
theorem tC_atom (s : List UInt8) : tC (atomT s) = [.int .i64 2, .bool false, .sl true 1 [] false, .str s, .int .i64 0, .sl true 6 [] false] := by simp only [atomT, tC, tKs, lsl_nil]
theorem tC_bin (s : List UInt8) : tC (binT s) = [.int .i64 6, .bool false, .sl true 1 [] false, .str s, .int .i64 0, .sl true 6 [] false] := by simp only [binT, tC, tKs, lsl_nil]
theorem tC_nil : tC nilT = [.int .i64 3, .bool false, .sl true 1 [] false, .str [], .int .i64 0, .sl true 6 [] false] := by simp only [nilT, tC, tKs, lsl_nil]
theorem tC_big (s : UInt8) (b : List UInt8) : tC (bigT (s :: b)) = [.int .i64 1, .bool (decide (s = 1)), .sl false 1 (lsl (bigL b)) false, .str [], .int .i64 0, .sl true 6 [] false] := by simp only [bigT, tC, tKs]

theorem plain_does (bn : Bool) (B : List UInt8) (hbn : bn = true → B = []) (hB : B.length ≤ 1000000000) (tag : UInt8) (frm : Nat) (hf : frm + 1 ≤ B.length) (terms : Int) :
    CallsA Try.prog 55 [.ref (.arg 0) 0, .int .u8 tag.toNat, .int .i64 frm] [some ⟨rdC bn B (frm + 1) terms 0, true⟩, none, none] (TermQ [none, none] bn B (rPlain B tag frm terms)) := by
  have hbn' : bn = false := by
    cases bn with
    | false => rfl
    | true => rw [hbn rfl] at hf; simp at hf
  subst hbn'
  have n97 : ∀ h : tag = 97, ((tag.toNat : Int) = 97) = True := fun h => eq_true (by rw [h]; rfl)
  have n98 : ∀ h : tag = 98, ((tag.toNat : Int) = 98) = True := fun h => eq_true (by rw [h]; rfl)
  have n110 : ∀ h : tag = 110, ((tag.toNat : Int) = 110) = True := fun h => eq_true (by rw [h]; rfl)
  have n119 : ∀ h : tag = 119, ((tag.toNat : Int) = 119) = True := fun h => eq_true (by rw [h]; rfl)
  have n109 : ∀ h : tag = 109, ((tag.toNat : Int) = 109) = True := fun h => eq_true (by rw [h]; rfl)
  have m97 : ∀ h : ¬ tag = 97, ((tag.toNat : Int) = 97) = False := fun h => (u8_eq tag 97 (by decide)).trans (eq_false h)
  have m98 : ∀ h : ¬ tag = 98, ((tag.toNat : Int) = 98) = False := fun h => (u8_eq tag 98 (by decide)).trans (eq_false h)
  have m110 : ∀ h : ¬ tag = 110, ((tag.toNat : Int) = 110) = False := fun h => (u8_eq tag 110 (by decide)).trans (eq_false h)
  have m119 : ∀ h : ¬ tag = 119, ((tag.toNat : Int) = 119) = False := fun h => (u8_eq tag 119 (by decide)).trans (eq_false h)
  have m109 : ∀ h : ¬ tag = 109, ((tag.toNat : Int) = 109) = False := fun h => (u8_eq tag 109 (by decide)).trans (eq_false h)
  refine CallsA.of (E := env) ttok mixed Try.func55 (by kernel_rfl) rfl (by kernel_rfl) (rl := [.cell 6 28]) rfl (Nat.le_of_ble_eq_true rfl) false ?_
  simp only [go_sem, W_block, rdC]
  refine W_cut (fun st => ∃ t pos' e', st.tm 0 = .ref (.arg 0) 0 ∧ st.tm 2 = .int .i64 frm ∧ st.tm 6 = .ref (.loc 6 0 1) 0 ∧ st.tm 7 = .ref (.loc 7 1 2) 0 ∧ st.hp (.loc 6 0 1) = some ⟨tC T0, true⟩ ∧ st.hp (.loc 7 1 2) = some ⟨tC t, true⟩ ∧
    st.hp (.arg 0) = some ⟨rdC false B pos' terms e', true⟩ ∧ st.hp (.arg 1) = none ∧ st.hp (.arg 2) = none ∧ Res (rPre B tag (frm + 1)) (t, pos') e') ?_ ?_
  · by_cases h97 : tag = 97
    · simp only [go_sem, W_cond, n97 h97]
      obtain ⟨n', l, pos', e', hc, hl, hres⟩ : ∃ n' l pos' e', FDoes Try.prog 53 [.ref (.arg 0) 0, .int .i64 1] [some ⟨rdC false B (frm + 1) terms 0, true⟩, none] [.v (.sl n' 1 (bsl l) true)] [some ⟨rdC false B pos' terms e', true⟩, none] none ∧ l.length ≤ 1 ∧
          Res (rPre B tag (frm + 1)) ((if l.length = 0 then .mk 1 false true [] [] 0 true [] else numT (beV l)), pos') e' := by
        cases hk : rTake B 1 (frm + 1) with
        | ok l =>
          refine ⟨false, l, frm + 1 + 1, 0, take_at hB hk 1 rfl, by rw [(rTake_ok hk).2.2]; omega, ?_⟩
          simp only [rPre, h97, if_true, hk, Res, (rTake_ok hk).2.2]
          exact ⟨by rw [if_neg (by omega)], trivial⟩
        | error c =>
          refine ⟨true, [], frm + 1, 3, take_not hB hf hk 1 rfl, by simp, ?_⟩
          simp only [rPre, h97, if_true, hk, Res]
          rw [(rTake_err hk).2]
          exact ⟨rfl, by decide⟩
      have hc := hc
      try simp only [go_sem, List.length_append, rdC] at hc
      refine WCallR_does hc (by rfl) (by rfl) ?_
      clear hc
      simp only [go_sem, W_cond, W_block]
      refine W_loop (fun (i : Nat) st => i ≤ l.length ∧ st.tm 0 = .ref (.arg 0) 0 ∧ st.tm 2 = .int .i64 frm ∧ st.tm 6 = .ref (.loc 6 0 1) 0 ∧ st.tm 7 = .ref (.loc 7 1 2) 0 ∧
        st.tm 20 = .sl n' 1 (bsl l) true ∧ st.tm 21 = .int .i64 l.length ∧ st.tm 22 = .int .i64 i ∧ st.hp (.loc 6 0 1) = some ⟨[.int .i64 0, .bool false, .sl true 1 [] false, .str [], .int .i64 0, .sl true 6 [] false], true⟩ ∧
        st.hp (.loc 7 1 2) = some ⟨if i = 0 then [.int .i64 1, .bool false, .sl true 1 [] false, .str [], .int .i64 0, .sl true 6 [] false] else [.int .i64 1, .bool (ofN (beV l)), .sl (emp (ofL (beV l))) 1 (lsl (ofL (beV l))) false, .str [], .int .i64 0, .sl true 6 [] false], true⟩ ∧
        st.hp (.arg 0) = some ⟨[.sl false 1 (bsl B) false, .int .i64 (pos' : Nat), .int .i64 terms, .int .i64 e'], true⟩ ∧ st.hp (.arg 1) = none ∧ st.hp (.arg 2) = none) (fun i => l.length - i) 0 ?_ ?_
      · simp only [go_sem, W_cond, W_block]
      · rintro i tm hp clk ⟨hi, g0, g2, g6, g7, g20, g21, g22, h6, h7, hr, h1, h2⟩
        replace g0 : tm 0 = _ := g0
        replace g2 : tm 2 = _ := g2
        replace g6 : tm 6 = _ := g6
        replace g7 : tm 7 = _ := g7
        replace g20 : tm 20 = _ := g20
        replace g21 : tm 21 = _ := g21
        replace g22 : tm 22 = _ := g22
        replace h6 : hp (.loc 6 0 1) = _ := h6
        replace h7 : hp (.loc 7 1 2) = _ := h7
        replace hr : hp (.arg 0) = _ := hr
        replace h1 : hp (.arg 1) = _ := h1
        replace h2 : hp (.arg 2) = _ := h2
        by_cases hlt : i < l.length
        · have hi0 : i = 0 := by omega
          subst hi0
          obtain ⟨x, rfl⟩ : ∃ x, l = [x] := by
            match l, hl, hlt with
            | [x], _, _ => exact ⟨x, rfl⟩
            | _ :: _ :: _, h, _ => simp at h
          have hx : x.toNat < 256 := x.toNat_lt
          have hbe : beV [x] = x.toNat := by simp [beV]
          rw [hbe] at *
          have hw : IntKind.i64.wrap (x.toNat : Int) = (x.toNat : Int) := wrap64_id _ (by omega) (by omega)
          have w1 : IntKind.i64.wrap 1 = 1 := by decide
          have hlt0 : ((0 : Nat) : Int) < (([x] : List UInt8).length : Int) := by simp
          have hg := bsl_get (l := [x]) (i := 0) (x := x) rfl
          have hlt1 : (0 : Int) < 0 + 1 := by omega
          simp only [go_sem] at g21 g22 h7 hlt0
          simp only [go_sem, W_cond, W_block, g0, g2, g6, g7, g20, g21, g22, h6, h7, hr, h1, h2, hg, hw, w1]
          have hc := Of_does x.toNat (by omega) (by omega)
          try simp only [go_sem, List.length_append, numA] at hc
          refine WCallR_does hc (by rfl) (by rfl) ?_
          clear hc
          simp only [go_sem, W_cond, W_block, g0, g2, g6, g7, g20, g21, g22, h6, h7, hr, h1, h2, hg, hw, w1]
          exact ⟨1, ⟨by omega, rfl, rfl⟩, by omega⟩
        · have hlt' : ¬ (i : Int) < (l.length : Int) := by omega
          have hi' : i = l.length := by omega
          subst hi'
          simp only [go_sem, W_cond, W_block, g0, g2, g6, g7, g20, g21, g22, h6, h7, hr, h1, h2, hlt']
          refine ⟨_, pos', e', by rw [tC_T0], ?_, by rw [rdC], hres⟩
          split
          · rw [tC_int0]
          · rw [tC_num]
    · have p97 := m97 h97
      by_cases h98 : tag = 98
      · simp only [go_sem, W_cond, p97, n98 h98]
        cases hk : rTake B 4 (frm + 1) with
        | error c =>
          have hc := take_not (bn := false) (terms := terms) hB hf hk 4 rfl
          try simp only [go_sem, List.length_append, rdC] at hc
          refine WCallR_does hc (by rfl) (by rfl) ?_
          clear hc
          simp only [go_sem, W_cond, W_block]
          refine ⟨.mk 1 false true [] [] 0 true [], frm + 1, 3, by rw [tC_T0], by rw [tC_int0], by rw [rdC], ?_⟩
          simp only [rPre, h97, h98, if_false, if_true, hk, Res]
          rw [(rTake_err hk).2]
          exact ⟨rfl, by decide⟩
        | ok l =>
          obtain ⟨q1, q2, q3⟩ := rTake_ok hk
          match l, q3 with
          | [x0, x1, x2, x3], q3 =>
          have hc := take_at (bn := false) (terms := terms) hB hk 4 rfl
          try simp only [go_sem, List.length_append, rdC, bsl_cons, bsl_nil] at hc
          refine WCallR_does hc (by rfl) (by rfl) ?_
          clear hc
          have z0 : x0.toNat < 256 := x0.toNat_lt
          have z1 : x1.toNat < 256 := x1.toNat_lt
          have z2 : x2.toNat < 256 := x2.toNat_lt
          have z3 : x3.toNat < 256 := x3.toNat_lt
          have wu : ∀ n : Nat, n < 4294967296 → IntKind.u32.wrap (n : Int) = (n : Int) := by
            intro n hn
            show (n : Int) % 4294967296 = _
            omega
          have w0 := wu x0.toNat (by omega)
          have w1 := wu x1.toNat (by omega)
          have w2 := wu x2.toNat (by omega)
          have w3 := wu x3.toNat (by omega)
          have s0 : IntKind.u32.wrap ((x0.toNat : Int) * 16777216) = ((x0.toNat * 2 ^ 24 : Nat) : Int) := by
            show ((x0.toNat : Int) * 16777216) % 4294967296 = _
            omega
          have s1 : IntKind.u32.wrap ((x1.toNat : Int) * 65536) = ((x1.toNat * 65536 : Nat) : Int) := by
            show ((x1.toNat : Int) * 65536) % 4294967296 = _
            omega
          have s2 : IntKind.u32.wrap ((x2.toNat : Int) * 256) = ((x2.toNat * 256 : Nat) : Int) := by
            show ((x2.toNat : Int) * 256) % 4294967296 = _
            omega
          have o1 := or_add32 x0.toNat (x1.toNat * 65536) 24 (by omega) (by omega)
          have o2 : bitsA .or .u32 ((x0.toNat * 2 ^ 24 + x1.toNat * 65536 : Nat) : Int) ((x2.toNat * 256 : Nat) : Int) = (((x0.toNat * 256 + x1.toNat) * 65536 + x2.toNat * 256 : Nat) : Int) := by
            have := or_add32 (x0.toNat * 256 + x1.toNat) (x2.toNat * 256) 16 (by omega) (by omega)
            rw [show x0.toNat * 2 ^ 24 + x1.toNat * 65536 = (x0.toNat * 256 + x1.toNat) * 2 ^ 16 by omega]
            exact this
          have o3 : bitsA .or .u32 (((x0.toNat * 256 + x1.toNat) * 65536 + x2.toNat * 256 : Nat) : Int) (x3.toNat : Int) = ((beV [x0, x1, x2, x3] : Nat) : Int) := by
            have := or_add32 ((x0.toNat * 256 + x1.toNat) * 256 + x2.toNat) x3.toNat 8 (by omega) (by omega)
            rw [show (x0.toNat * 256 + x1.toNat) * 65536 + x2.toNat * 256 = ((x0.toNat * 256 + x1.toNat) * 256 + x2.toNat) * 2 ^ 8 by omega, this]
            simp only [beV, List.foldl_cons, List.foldl_nil]
            omega
          have hbe : beV [x0, x1, x2, x3] < 4294967296 := by simp only [beV, List.foldl_cons, List.foldl_nil]; omega
          generalize hv : beV [x0, x1, x2, x3] = v at *
          have hi32 : IntKind.i32.wrap (v : Int) = i32v v := by
            rw [IntKind.wrap_i32]
            unfold i32v
            split <;> omega
          have hb1 : -2147483648 ≤ i32v v := by unfold i32v; split <;> omega
          have hb2 : i32v v ≤ 2147483647 := by unfold i32v; split <;> omega
          have hi64 : IntKind.i64.wrap (i32v v) = i32v v := wrap64_id _ (by omega) (by omega)
          simp only [go_sem, W_cond, W_block, ofByte, w0, w1, w2, w3, s0, s1, s2, o1, o2, o3, hi32, hi64]
          have hc := Of_does (i32v v) (by omega) (by omega)
          try simp only [go_sem, List.length_append, numA] at hc
          refine WCallDR_does hc (by rfl) (by rfl) ?_
          clear hc
          simp only [go_sem, W_cond, W_block]
          refine ⟨by kernel_rfl, numT (i32v v), frm + 1 + 4, 0, by rw [tC_T0], by rw [tC_num], by rw [rdC], ?_⟩
          simp only [rPre, h97, h98, if_false, if_true, hk, Res, hv]
          exact ⟨rfl, trivial⟩
      · have p98 := m98 h98
        by_cases h110 : tag = 110
        · simp only [go_sem, W_cond, p97, p98, n110 h110]
          cases hm : rMany B 1 1 48 (frm + 1) with
          | error c =>
            obtain ⟨hc0, pos', hp', hc⟩ := many_err (bn := false) (terms := terms) hB hf (by omega) hm
            simp only [Int.natCast_one, Int.cast_ofNat_Int] at hc
            have hc := hc
            try simp only [go_sem, List.length_append, rdC] at hc
            refine WCallR_does hc (by rfl) (by rfl) ?_
            clear hc
            have w1 : IntKind.i64.wrap 1 = 1 := by decide
            simp only [go_sem, W_cond, w1]
            have hc := take_e (bn := false) (B := B) (pos := pos') (terms := terms) hc0 1
            try simp only [go_sem, List.length_append, rdC] at hc
            refine WCallR_does hc (by rfl) (by rfl) ?_
            clear hc
            simp only [go_sem, W_cond, W_block]
            have hc := big_small true true [] (by simp)
            try simp only [go_sem, List.length_append, bsl_nil, numA] at hc
            refine WCallR_does hc (by rfl) (by rfl) ?_
            clear hc
            simp only [go_sem, W_cond, W_block]
            refine ⟨.mk 1 false true [] [] 0 true [], pos', c, by rw [tC_T0], by rw [tC_int0]; rfl, by rw [rdC], ?_⟩
            simp only [rPre, h97, h98, h110, if_false, if_true, hm, Res]
            exact ⟨rfl, hc0⟩
          | ok n =>
            obtain ⟨hl1, hl2, hl3⟩ := rMany_le hm
            have hc := many_ok (bn := false) (terms := terms) hB (by omega) hm
            simp only [Int.natCast_one, Int.cast_ofNat_Int] at hc
            have hc := hc
            try simp only [go_sem, List.length_append, rdC] at hc
            refine WCallR_does hc (by rfl) (by rfl) ?_
            clear hc
            have w1 : IntKind.i64.wrap (1 + (n : Int)) = ((1 + n : Nat) : Int) := by rw [wrap64_id _ (by omega) (by omega)]; omega
            simp only [go_sem, W_cond, w1]
            cases hk : rTake B (1 + n) (frm + 1 + 1) with
            | error c =>
              have hc := take_not (bn := false) (terms := terms) hB hl1 hk _ rfl
              try simp only [go_sem, List.length_append, rdC] at hc
              refine WCallR_does hc (by rfl) (by rfl) ?_
              clear hc
              simp only [go_sem, W_cond, W_block]
              have hc := big_small true true [] (by simp)
              try simp only [go_sem, List.length_append, bsl_nil, numA] at hc
              refine WCallR_does hc (by rfl) (by rfl) ?_
              clear hc
              simp only [go_sem, W_cond, W_block]
              refine ⟨.mk 1 false true [] [] 0 true [], frm + 1 + 1, 3, by rw [tC_T0], by rw [tC_int0]; rfl, by rw [rdC], ?_⟩
              simp only [rPre, h97, h98, h110, if_false, if_true, hm, hk, Res]
              rw [(rTake_err hk).2]
              exact ⟨rfl, by decide⟩
            | ok l =>
              obtain ⟨q1, q2, q3⟩ := rTake_ok hk
              match l, q3 with
              | [], q3 => simp only [List.length_nil] at q3; omega
              | s :: b, q3 =>
              simp only [List.length_cons] at q3
              have hc := take_at (bn := false) (terms := terms) hB hk _ rfl
              try simp only [go_sem, List.length_append, rdC] at hc
              refine WCallR_does hc (by rfl) (by rfl) ?_
              clear hc
              simp only [go_sem, W_cond, W_block]
              have hc := big_does false true s b (by omega) (by omega)
              try simp only [go_sem, List.length_append, numA] at hc
              refine WCallR_does hc (by rfl) (by rfl) ?_
              clear hc
              simp only [go_sem, W_cond, W_block]
              refine ⟨bigT (s :: b), frm + 1 + 1 + (1 + n), 0, by rw [tC_T0], by rw [tC_big], by rw [rdC], ?_⟩
              simp only [rPre, h97, h98, h110, if_false, if_true, hm, hk, Res]
              exact ⟨rfl, trivial⟩
        · have p110 := m110 h110
          by_cases h119 : tag = 119
          · simp only [go_sem, W_cond, p97, p98, p110, n119 h119]
            cases hm : rMany B 1 1 40 (frm + 1) with
            | error c =>
              obtain ⟨hc0, pos', hp', hc⟩ := many_err (bn := false) (terms := terms) hB hf (by omega) hm
              simp only [Int.natCast_one, Int.cast_ofNat_Int] at hc
              have hc := hc
              try simp only [go_sem, List.length_append, rdC] at hc
              refine WCallR_does hc (by rfl) (by rfl) ?_
              clear hc
              simp only [go_sem, W_cond]
              have hc := take_e (bn := false) (B := B) (pos := pos') (terms := terms) hc0 0
              try simp only [go_sem, List.length_append, rdC] at hc
              refine WCallR_does hc (by rfl) (by rfl) ?_
              clear hc
              simp only [go_sem, W_cond, W_block]
              refine ⟨atomT [], pos', c, by rw [tC_T0], by rw [tC_atom], by rw [rdC], ?_⟩
              simp only [rPre, h97, h98, h110, h119, if_false, if_true, hm, Res]
              exact ⟨rfl, hc0⟩
            | ok n =>
              obtain ⟨hl1, hl2, hl3⟩ := rMany_le hm
              have hc := many_ok (bn := false) (terms := terms) hB (by omega) hm
              simp only [Int.natCast_one, Int.cast_ofNat_Int] at hc
              have hc := hc
              try simp only [go_sem, List.length_append, rdC] at hc
              refine WCallR_does hc (by rfl) (by rfl) ?_
              clear hc
              simp only [go_sem, W_cond]
              cases hk : rTake B n (frm + 1 + 1) with
              | error c =>
                have hc := take_not (bn := false) (terms := terms) hB hl1 hk _ rfl
                try simp only [go_sem, List.length_append, rdC] at hc
                refine WCallR_does hc (by rfl) (by rfl) ?_
                clear hc
                simp only [go_sem, W_cond, W_block]
                refine ⟨atomT [], frm + 1 + 1, 3, by rw [tC_T0], by rw [tC_atom], by rw [rdC], ?_⟩
                simp only [rPre, h97, h98, h110, h119, if_false, if_true, hm, hk, Res]
                rw [(rTake_err hk).2]
                exact ⟨rfl, by decide⟩
              | ok l =>
                have hc := take_at (bn := false) (terms := terms) hB hk _ rfl
                try simp only [go_sem, List.length_append, rdC] at hc
                refine WCallR_does hc (by rfl) (by rfl) ?_
                clear hc
                simp only [go_sem, W_cond, W_block, bytesA_bsl]
                refine ⟨atomT l, frm + 1 + 1 + n, 0, by rw [tC_T0], by rw [tC_atom], by rw [rdC], ?_⟩
                simp only [rPre, h97, h98, h110, h119, if_false, if_true, hm, hk, Res]
                exact ⟨rfl, trivial⟩
          · have p119 := m119 h119
            by_cases h109 : tag = 109
            · simp only [go_sem, W_cond, p97, p98, p110, p119, n109 h109]
              cases hm : rMany B 4 0 400 (frm + 1) with
              | error c =>
                obtain ⟨hc0, pos', hp', hc⟩ := many_err (bn := false) (terms := terms) hB hf (by omega) hm
                simp only [Int.natCast_one, Int.cast_ofNat_Int] at hc
                have hc := hc
                try simp only [go_sem, List.length_append, rdC] at hc
                refine WCallR_does hc (by rfl) (by rfl) ?_
                clear hc
                simp only [go_sem, W_cond]
                have hc := take_e (bn := false) (B := B) (pos := pos') (terms := terms) hc0 0
                try simp only [go_sem, List.length_append, rdC] at hc
                refine WCallR_does hc (by rfl) (by rfl) ?_
                clear hc
                simp only [go_sem, W_cond, W_block]
                refine ⟨binT [], pos', c, by rw [tC_T0], by rw [tC_bin], by rw [rdC], ?_⟩
                simp only [rPre, h97, h98, h110, h119, h109, if_false, if_true, hm, Res]
                exact ⟨rfl, hc0⟩
              | ok n =>
                obtain ⟨hl1, hl2, hl3⟩ := rMany_le hm
                have hc := many_ok (bn := false) (terms := terms) hB (by omega) hm
                simp only [Int.natCast_one, Int.cast_ofNat_Int] at hc
                have hc := hc
                try simp only [go_sem, List.length_append, rdC] at hc
                refine WCallR_does hc (by rfl) (by rfl) ?_
                clear hc
                simp only [go_sem, W_cond]
                cases hk : rTake B n (frm + 1 + 4) with
                | error c =>
                  have hc := take_not (bn := false) (terms := terms) hB hl1 hk _ rfl
                  try simp only [go_sem, List.length_append, rdC] at hc
                  refine WCallR_does hc (by rfl) (by rfl) ?_
                  clear hc
                  simp only [go_sem, W_cond, W_block]
                  refine ⟨binT [], frm + 1 + 4, 3, by rw [tC_T0], by rw [tC_bin], by rw [rdC], ?_⟩
                  simp only [rPre, h97, h98, h110, h119, h109, if_false, if_true, hm, hk, Res]
                  rw [(rTake_err hk).2]
                  exact ⟨rfl, by decide⟩
                | ok l =>
                  have hc := take_at (bn := false) (terms := terms) hB hk _ rfl
                  try simp only [go_sem, List.length_append, rdC] at hc
                  refine WCallR_does hc (by rfl) (by rfl) ?_
                  clear hc
                  simp only [go_sem, W_cond, W_block, bytesA_bsl]
                  refine ⟨binT l, frm + 1 + 4 + n, 0, by rw [tC_T0], by rw [tC_bin], by rw [rdC], ?_⟩
                  simp only [rPre, h97, h98, h110, h119, h109, if_false, if_true, hm, hk, Res]
                  exact ⟨rfl, trivial⟩
            · have p109 := m109 h109
              simp only [go_sem, W_cond, p97, p98, p110, p119, p109]
              refine ⟨nilT, frm + 1, 0, by rw [tC_T0], by rw [tC_nil], by rw [rdC], ?_⟩
              simp only [rPre, h97, h98, h110, h119, h109, if_false, Res]
              exact ⟨trivial, trivial⟩
  · rintro tm hp clk ⟨t, pos', e', g0, g2, g6, g7, h6, h7, hr, h1, h2, hres⟩
    replace g0 : tm 0 = _ := g0
    replace g2 : tm 2 = _ := g2
    replace g6 : tm 6 = _ := g6
    replace g7 : tm 7 = _ := g7
    replace h6 : hp (.loc 6 0 1) = _ := h6
    replace h7 : hp (.loc 7 1 2) = _ := h7
    replace hr : hp (.arg 0) = _ := hr
    replace h1 : hp (.arg 1) = _ := h1
    replace h2 : hp (.arg 2) = _ := h2
    cases hpre : rPre B tag (frm + 1) with
    | error c =>
      rw [hpre] at hres
      obtain ⟨rfl, hc⟩ := hres
      rw [rdC] at hr
      rw [tC_eq] at h6 h7
      simp only [go_sem, W_cond, W_block, g0, g2, g6, g7, h6, h7, hr, h1, h2, hc]
      exact ⟨t, pos', terms, e', by rw [tA_eq], rfl, rfl, by rw [rPlain, hpre]; exact ⟨rfl, hc⟩⟩
    | ok b =>
      obtain ⟨t0, p0⟩ := b
      rw [hpre] at hres
      obtain ⟨e, rfl⟩ := hres
      cases e
      obtain ⟨hle1, hle2⟩ := rPre_le hf hpre
      rw [rdC] at hr
      rw [tC_eq] at h6 h7
      have hle3 : frm ≤ pos' := by omega
      have hsl : (slc B frm (pos' - frm)).length = pos' - frm := by simp [slc]; omega
      have b1 : bsl ((B.drop frm).take (pos' - frm)) = bsl (slc B frm (pos' - frm)) := rfl
      simp only [go_sem, W_cond, W_block, g0, g2, g6, g7, h6, h7, hr, h1, h2]
      cases ht : chkB t with
      | true =>
        have hc := Put_does true 0 true [] (.inl rfl) t (by simp) ht
        rw [List.nil_append] at hc
        have hc := hc
        try simp only [go_sem, List.length_append, tA_eq] at hc
        refine WCallDR_does hc (by rfl) (by rfl) ?_
        clear hc
        by_cases hq : enc t = slc B frm (pos' - frm)
        · simp only [go_sem, W_cond, W_block, g0, g2, g6, g7, h6, h7, hr, h1, h2, hle2, hle3, bsl_drop, bsl_take, bytesA_bsl, b1, hq]
          exact ⟨t, pos', terms, 0, by rw [tA_eq], rfl, rfl, by rw [rPlain, hpre, rFin, if_pos ⟨ht, hq⟩]; exact ⟨rfl, rfl⟩⟩
        · simp only [go_sem, W_cond, W_block, g0, g2, g6, g7, h6, h7, hr, h1, h2, hle2, hle3, bsl_drop, bsl_take, bytesA_bsl, b1, hq]
          have hc := fail_does false B pos' terms 0 4
          try simp only [go_sem, List.length_append, rdC] at hc
          refine WCallR_does hc (by rfl) (by rfl) ?_
          clear hc
          simp only [go_sem, W_cond, W_block, g0, g2, g6, g7, h6, h7, hr, h1, h2]
          exact ⟨t, pos', terms, 4, by rw [tA_eq], rfl, rfl, by rw [rPlain, hpre, rFin, if_neg (fun h => hq h.2)]; exact ⟨rfl, by decide⟩⟩
      | false =>
        have hc := Put_bad true 0 true [] t ht
        have hc := hc
        try simp only [go_sem, List.length_append, tA_eq] at hc
        refine WCallDR_does hc (by rfl) (by rfl) ?_
        clear hc
        have hq : ¬ [] = slc B frm (pos' - frm) := by
          intro h
          rw [← h] at hsl
          simp at hsl
          omega
        simp only [go_sem, W_cond, W_block, g0, g2, g6, g7, h6, h7, hr, h1, h2, hle2, hle3, bsl_drop, bsl_take, bytesA_bsl, b1, hq]
        have hc := fail_does false B pos' terms 0 4
        try simp only [go_sem, List.length_append, rdC] at hc
        refine WCallR_does hc (by rfl) (by rfl) ?_
        clear hc
        simp only [go_sem, W_cond, W_block, g0, g2, g6, g7, h6, h7, hr, h1, h2]
        exact ⟨t, pos', terms, 4, by rw [tA_eq], rfl, rfl, by rw [rPlain, hpre, rFin, if_neg (fun h => by rw [ht] at h; exact Bool.false_ne_true h.1)]; exact ⟨rfl, by decide⟩⟩
end Go.Proofs.Ythbbollhojdjdaa
