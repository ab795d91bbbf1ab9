/- WALKS, 4: terms; may one be? Conditions: none. -/
import Derived.Test.YthbbollhojdjdaaW3
namespace Go.Proofs.Ythbbollhojdjdaa
open Go.Ab
set_option maxRecDepth 100000
set_option linter.unusedSimpArgs false

/-- A term (with it: are its slices nil). -/
inductive T where
  | mk (kind : Int) (neg ln : Bool) (l : List UInt32) (s : List UInt8) (n : Int) (kn : Bool) (k : List T)

mutual
def tC : T → List AV
  | .mk kind neg ln l s n kn k => [.int .i64 kind, .bool neg, .sl ln 1 (lsl l) false, .str s, .int .i64 n, .sl kn 6 (tKs k) false]
def tKs : List T → List (List AV)
  | [] => []
  | t :: k => tC t :: tKs k
end
def tA (t : T) : AV := .agg (tC t)

def T.kind : T → Int | .mk kind .. => kind
def T.neg : T → Bool | .mk _ neg .. => neg
def T.ln : T → Bool | .mk _ _ ln .. => ln
def T.l : T → List UInt32 | .mk _ _ _ l .. => l
def T.s : T → List UInt8 | .mk _ _ _ _ s .. => s
def T.n : T → Int | .mk _ _ _ _ _ n .. => n
def T.kn : T → Bool | .mk _ _ _ _ _ _ kn _ => kn
def T.k : T → List T | .mk _ _ _ _ _ _ _ k => k

theorem tC_eq (t : T) : tC t = [.int .i64 t.kind, .bool t.neg, .sl t.ln 1 (lsl t.l) false, .str t.s, .int .i64 t.n, .sl t.kn 6 (tKs t.k) false] := by
  cases t; simp only [tC, T.kind, T.neg, T.ln, T.l, T.s, T.n, T.kn, T.k]
theorem tA_eq (t : T) : tA t = .agg [.int .i64 t.kind, .bool t.neg, .sl t.ln 1 (lsl t.l) false, .str t.s, .int .i64 t.n, .sl t.kn 6 (tKs t.k) false] := by rw [tA, tC_eq]
theorem tKs_map : ∀ k : List T, tKs k = k.map tC
  | [] => by simp only [tKs, List.map_nil]
  | t :: k => by simp only [tKs, List.map_cons, tKs_map k]
@[go_sem] theorem tKs_length (k : List T) : (tKs k).length = k.length := by rw [tKs_map]; simp
@[go_sem] theorem tC_length (t : T) : (tC t).length = 6 := by rw [tC_eq]; rfl
@[go_sem] theorem tC_nfs (t : T) : nf.nfs (tC t) = true := by rw [tC_eq]; rfl
theorem tKs_get {k : List T} {i : Nat} {t : T} (h : k[i]? = some t) : (tKs k)[i]? = some (tC t) := by rw [tKs_map, List.getElem?_map, h]; rfl
@[go_sem] theorem tA_nf (t : T) : nf (tA t) = true := by rw [tA_eq]; rfl
@[go_sem] theorem tA_cells (t : T) : cellsOf (tA t) = some (tC t) := rfl
@[go_sem] theorem tA_names (t : T) : namesA (tA t) = [] := by rw [tA_eq]; rfl
@[go_sem] theorem tC_all (t : T) : (tC t).all one = true := by rw [tC_eq]; rfl

def zeroB (neg : Bool) (l : List UInt32) : Bool := !neg && decide (l.length = 0)
theorem zero_does (neg ln : Bool) (l : List UInt32) : FDoes Try.prog 89 [numA neg ln l] [none] [.v (.bool (zeroB neg l))] [none] none := by
  refine FDoes.of (E := env) ttok mixed Try.func89 (by kernel_rfl) rfl (by kernel_rfl) (rl := [.tmp 2]) rfl (Nat.le_of_ble_eq_true rfl) false ?_
  cases neg
  · by_cases h : (l.length : Int) = 0
    · have h' : l.length = 0 := by omega
      simp only [go_sem, W_cond, W_block, numA, h, zeroB, h']
    · have h' : ¬ l.length = 0 := by omega
      simp only [go_sem, W_cond, W_block, numA, h, zeroB, h']
  · simp only [go_sem, W_cond, W_block, numA, zeroB]

def okByte (x : UInt8) : Bool := decide (33 ≤ x.toNat ∧ x.toNat ≤ 126)
def nameB (s : List UInt8) : Bool := decide (1 ≤ s.length ∧ s.length ≤ 40) && s.all okByte

theorem name_does (s : List UInt8) : FDoes Try.prog 90 [.str s] [none] [.v (.bool (nameB s))] [none] none := by
  refine FDoes.of (E := env) ttok mixed Try.func90 (by kernel_rfl) rfl (by kernel_rfl) (rl := [.tmp 2]) rfl (Nat.le_of_ble_eq_true rfl) false ?_
  by_cases h1 : (s.length : Int) < 1
  · have h1' : ¬ (1 ≤ s.length ∧ s.length ≤ 40) := by omega
    simp only [go_sem, W_cond, W_block, h1, nameB, h1']
  · by_cases h2 : (s.length : Int) > 40
    · have h1' : ¬ (1 ≤ s.length ∧ s.length ≤ 40) := by omega
      simp only [go_sem, W_cond, W_block, h1, h2, nameB, h1']
    · have h1' : 1 ≤ s.length ∧ s.length ≤ 40 := by omega
      simp only [go_sem, W_cond, W_block, h1, h2]
      refine W_loop (fun (i : Nat) st => i ≤ s.length ∧ st.tm 0 = .str s ∧ st.tm 13 = .int .i64 s.length ∧ st.tm 14 = .int .i64 i ∧ (s.take i).all okByte = true ∧ st.hp (.arg 0) = none) (fun i => s.length - i) 0 ?_ ?_
      · simp only [go_sem, W_cond, W_block]
      · rintro i tm hp clk ⟨hi, g1, g2, g3, g4, g5⟩
        replace g1 : tm 0 = _ := g1
        replace g2 : tm 13 = _ := g2
        replace g3 : tm 14 = _ := g3
        replace g5 : hp (.arg 0) = _ := g5
        by_cases hlt : i < s.length
        · have hlt' : (i : Int) < (s.length : Int) := by omega
          have hg : s[i]? = some s[i] := List.getElem?_eq_getElem hlt
          have hi0 : ¬ (i : Int) < 0 := by omega
          have hw : IntKind.i64.wrap ((i : Int) + 1) = ((i + 1 : Nat) : Int) := by rw [wrap64_id _ (by omega) (by omega)]; omega
          have bad : ¬ (33 ≤ s[i].toNat ∧ s[i].toNat ≤ 126) → s.all okByte = false := by
            intro h
            cases hh : s.all okByte with
            | false => rfl
            | true =>
              have := List.all_eq_true.1 hh s[i] (List.getElem_mem hlt)
              simp only [okByte, decide_eq_true_eq] at this
              exact absurd this h
          by_cases q1 : (s[i].toNat : Int) < 33
          · have hb := bad (by omega)
            simp only [go_sem, W_cond, W_block, g1, g2, g3, g5, hlt', hi0, hg, ofByte, q1, nameB, hb]
          · by_cases q2 : (s[i].toNat : Int) > 126
            · have hb := bad (by omega)
              simp only [go_sem, W_cond, W_block, g1, g2, g3, g5, hlt', hi0, hg, ofByte, q1, q2, nameB, hb]
            · simp only [go_sem, W_cond, W_block, g1, g2, g3, g5, hlt', hi0, hg, ofByte, q1, q2, hw]
              refine ⟨i + 1, ⟨by omega, rfl, ?_⟩, by omega⟩
              rw [List.take_add_one, hg]
              simp only [Option.toList_some, List.all_append, g4, List.all_cons, List.all_nil, Bool.true_and, Bool.and_true, okByte, decide_eq_true_eq]
              omega
        · have hlt' : ¬ (i : Int) < (s.length : Int) := by omega
          have hi : i = s.length := by omega
          subst hi
          rw [List.take_length] at g4
          simp only [go_sem, W_cond, W_block, g1, g2, g3, g5, hlt', nameB, h1', g4]

@[go_sem] theorem str_beq (a b : List UInt8) : (a == b) = decide (a = b) := by by_cases h : a = b <;> simp [h]
attribute [go_sem] decide_eq_false_iff_not decide_not

/-- Is a term right, but for what it is made of? -/
def ownI (t : T) : Bool := if t.kind = 1 then nchk t.neg t.l else zeroB t.neg t.l
def ownS (t : T) : Bool := if t.kind = 2 then nameB t.s else if t.kind = 6 then decide (t.s.length ≤ 400) else decide (t.s = [])
def ownK (t : T) : Bool := if t.kind = 4 then decide (t.k.length = 2) else if t.kind = 5 then decide (t.k.length ≤ 40) else decide (t.k.length = 0)
def ownB (t : T) : Bool := decide (1 ≤ t.kind ∧ t.kind ≤ 6) && (ownI t && ownS t && ownK t && decide (t.n = 0))

theorem own_does (t : T) : FDoes Try.prog 80 [tA t] [none] [.v (.bool (ownB t))] [none] none := by
  refine FDoes.of (E := env) ttok mixed Try.func80 (by kernel_rfl) rfl (by kernel_rfl) (rl := [.tmp 2]) rfl (Nat.le_of_ble_eq_true rfl) false ?_
  simp only [go_sem, W_cond, tA_eq]
  have hc := zero_does t.neg t.ln t.l
  try simp only [go_sem, List.length_append, numA] at hc
  refine WCallDR_does hc (by rfl) (by rfl) ?_
  clear hc
  simp only [go_sem, W_cond]
  refine W_cut (fun st => (1 ≤ t.kind ∧ t.kind ≤ 6) ∧ st.tm 3 = .bool (ownI t) ∧ st.tm 4 = .bool (ownS t) ∧ st.tm 5 = .bool (ownK t) ∧ st.tm 1 = .ref (.loc 1 0 1) 0 ∧
    st.hp (.loc 1 0 1) = some ⟨[.int .i64 t.kind, .bool t.neg, .sl t.ln 1 (lsl t.l) false, .str t.s, .int .i64 t.n, .sl t.kn 6 (tKs t.k) false], true⟩) ?_ ?_
  · have len0 : ((t.k.length : Int) = 0) = (t.k.length = 0) := by apply propext; omega
    have len2 : ((t.k.length : Int) = 2) = (t.k.length = 2) := by apply propext; omega
    have len40 : ((t.k.length : Int) ≤ 40) = (t.k.length ≤ 40) := by apply propext; omega
    have len400 : ((t.s.length : Int) ≤ 400) = (t.s.length ≤ 400) := by apply propext; omega
    by_cases h1 : t.kind = 1
    · simp only [go_sem, W_cond, W_block, h1]
      have hc := check_does t.neg t.ln t.l
      try simp only [go_sem, List.length_append, numA] at hc
      refine WCallR_does hc (by rfl) (by rfl) ?_
      clear hc
      simp only [go_sem, W_cond, W_block, ownI, ownS, ownK, h1, len0]
    · by_cases h2 : t.kind = 2
      · simp only [go_sem, W_cond, W_block, h2]
        have hc := name_does t.s
        try simp only [go_sem, List.length_append] at hc
        refine WCallR_does hc (by rfl) (by rfl) ?_
        clear hc
        simp only [go_sem, W_cond, W_block, ownI, ownS, ownK, h2, len0]
      · by_cases h3 : t.kind = 3
        · simp only [go_sem, W_cond, W_block, h3, ownI, ownS, ownK, len0]
        · by_cases h4 : t.kind = 4
          · simp only [go_sem, W_cond, W_block, h4, ownI, ownS, ownK, len2]
          · by_cases h5 : t.kind = 5
            · simp only [go_sem, W_cond, W_block, h5, ownI, ownS, ownK, len40]
            · by_cases h6 : t.kind = 6
              · simp only [go_sem, W_cond, W_block, h6, ownI, ownS, ownK, len400, len0]
              · have hk : ¬ (1 ≤ t.kind ∧ t.kind ≤ 6) := by omega
                simp only [go_sem, W_cond, W_block, h1, h2, h3, h4, h5, h6, ownB, hk]
  · rintro tm hp clk ⟨hk, g3, g4, g5, g1, g2⟩
    replace g1 : tm 1 = _ := g1
    replace g2 : hp (.loc 1 0 1) = _ := g2
    replace g3 : tm 3 = _ := g3
    replace g4 : tm 4 = _ := g4
    replace g5 : tm 5 = _ := g5
    cases h3 : ownI t <;> cases h4 : ownS t <;> cases h5 : ownK t <;> simp only [go_sem, W_cond, W_block, g1, g2, g3, g4, g5, h3, h4, h5, ownB, hk]
end Go.Proofs.Ythbbollhojdjdaa
