/- THE ABSTRACT MACHINE, 21: statements whose order is open, calls, ends of functions, as rules for simp (go_sem). Conditions: none. -/
import Derived.Test.YthbbollhojdjdaaAbSimp
import Derived.Test.YthbbollhojdjdaaAbDraw3
namespace Go.Ab
set_option linter.unusedSimpArgs false

section
variable (P : Program) (E : Env) (tm : Nat → AV) (hp : HP) (clk : Nat) (ops : Array Oper) (i : Nat) (rest : List Oper) (Q : St → Prop) (QD : St → List Rec → Prop) (acc : List Rec) (dst : Option Tmp) (ty : TypeId) (pos : String) (af : Array Edge) (g : Option (Nat × Bool))

@[go_sem] theorem WDoD_move (x : Operand) : WDoD P E ops i ⟨dst, .move x, ty, pos, af, g⟩ rest tm hp clk acc QD = WNextD P E ops i rest dst tm hp clk (namesA (Ab.get tm x)) acc QD (some (Ab.get tm x, [])) := by
  rw [WDoD_next _ _ _ _ _ _ _ _ _ _ _ (by intro f a t h; cases h)]
  simp only [seen, Op.operands, List.flatMap_cons, List.flatMap_nil, List.append_nil]
  rfl
@[go_sem] theorem WDoD_assign (x : Operand) : WDoD P E ops i ⟨dst, .assign x, ty, pos, af, g⟩ rest tm hp clk acc QD = WNextD P E ops i rest dst tm hp clk (namesA (Ab.get tm x)) acc QD (some (Ab.get tm x, [])) := by
  rw [WDoD_next _ _ _ _ _ _ _ _ _ _ _ (by intro f a t h; cases h)]
  simp only [seen, Op.operands, List.flatMap_cons, List.flatMap_nil, List.append_nil]
  rfl
@[go_sem] theorem WDoD_pick (c a b : Operand) : WDoD P E ops i ⟨dst, .pick c a b, ty, pos, af, g⟩ rest tm hp clk acc QD = WNextD P E ops i rest dst tm hp clk (namesA (Ab.get tm c) ++ (namesA (Ab.get tm a) ++ namesA (Ab.get tm b))) acc QD (pickA (Ab.get tm c) (Ab.get tm a) (Ab.get tm b)) := by
  rw [WDoD_next _ _ _ _ _ _ _ _ _ _ _ (by intro f a t h; cases h)]
  have e : evalOp E.tt (.pick c a b) (freshOf ⟨dst, .pick c a b, ty, pos, af, g⟩ i clk) (Ab.get tm) hp = pickA (Ab.get tm c) (Ab.get tm a) (Ab.get tm b) := by
    simp only [evalOp]
    cases Ab.get tm c <;> first | rfl | (cases Ab.get tm a <;> first | rfl | (cases Ab.get tm b <;> rfl))
  simp only [e, seen, Op.operands, List.flatMap_cons, List.flatMap_nil, List.append_nil]
@[go_sem] theorem WDoD_alloc (t : TypeId) : WDoD P E ops i ⟨dst, .alloc t, ty, pos, af, g⟩ rest tm hp clk acc QD = WNextD P E ops i rest dst tm hp clk ([]) acc QD (allocA E.tt t (.loc (dst.getD 0) i clk)) := by
  rw [WDoD_next _ _ _ _ _ _ _ _ _ _ _ (by intro f a t h; cases h)]
  simp only [seen, Op.operands, List.flatMap_cons, List.flatMap_nil, List.append_nil]
  rfl
@[go_sem] theorem WDoD_box (t : TypeId) (x : Operand) : WDoD P E ops i ⟨dst, .box t x, ty, pos, af, g⟩ rest tm hp clk acc QD = WNextD P E ops i rest dst tm hp clk (namesA (Ab.get tm x)) acc QD (boxA (.loc (dst.getD 0) i clk) (Ab.get tm x)) := by
  rw [WDoD_next _ _ _ _ _ _ _ _ _ _ _ (by intro f a t h; cases h)]
  simp only [seen, Op.operands, List.flatMap_cons, List.flatMap_nil, List.append_nil]
  rfl
@[go_sem] theorem WDoD_build (t : TypeId) (ps : Array (Nat × Operand)) : WDoD P E ops i ⟨dst, .build t ps, ty, pos, af, g⟩ rest tm hp clk acc QD = WNextD P E ops i rest dst tm hp clk ((ps.toList.map (·.2)).flatMap fun x => namesA (Ab.get tm x)) acc QD (oneCh (buildA E.tt t (ps.toList.map fun p => (p.1, Ab.get tm p.2)))) := by
  rw [WDoD_next _ _ _ _ _ _ _ _ _ _ _ (by intro f a t h; cases h)]
  have e : (.build t ps : Op).operands.toList = ps.toList.map (·.2) := by simp [Op.operands]
  simp only [seen, e]
  rfl
@[go_sem] theorem WDoD_buildSlice (t : TypeId) (n : Nat) (ps : Array (Nat × Operand)) : WDoD P E ops i ⟨dst, .buildSlice t n ps, ty, pos, af, g⟩ rest tm hp clk acc QD = WNextD P E ops i rest dst tm hp clk ((ps.toList.map (·.2)).flatMap fun x => namesA (Ab.get tm x)) acc QD (buildSliceA E.tt t n (ps.toList.map fun p => (p.1, Ab.get tm p.2)) hp) := by
  rw [WDoD_next _ _ _ _ _ _ _ _ _ _ _ (by intro f a t h; cases h)]
  have e : (.buildSlice t n ps : Op).operands.toList = ps.toList.map (·.2) := by simp [Op.operands]
  simp only [seen, e]
  rfl
@[go_sem] theorem WDoD_load (t : TypeId) (x : Operand) : WDoD P E ops i ⟨dst, .load t x, ty, pos, af, g⟩ rest tm hp clk acc QD = WNextD P E ops i rest dst tm hp clk (namesA (Ab.get tm x)) acc QD (oneCh (loadA E.tt t (Ab.get tm x) hp)) := by
  rw [WDoD_next _ _ _ _ _ _ _ _ _ _ _ (by intro f a t h; cases h)]
  simp only [seen, Op.operands, List.flatMap_cons, List.flatMap_nil, List.append_nil]
  rfl
@[go_sem] theorem WDoD_store (t : TypeId) (x y : Operand) : WDoD P E ops i ⟨dst, .store t x y, ty, pos, af, g⟩ rest tm hp clk acc QD = WNextD P E ops i rest dst tm hp clk (namesA (Ab.get tm x) ++ namesA (Ab.get tm y)) acc QD (storeA E.tt t (Ab.get tm x) (Ab.get tm y) hp) := by
  rw [WDoD_next _ _ _ _ _ _ _ _ _ _ _ (by intro f a t h; cases h)]
  simp only [seen, Op.operands, List.flatMap_cons, List.flatMap_nil, List.append_nil]
  rfl
@[go_sem] theorem WDoD_nilCheck (x : Operand) : WDoD P E ops i ⟨dst, .nilCheck x, ty, pos, af, g⟩ rest tm hp clk acc QD = WNextD P E ops i rest dst tm hp clk (namesA (Ab.get tm x)) acc QD (nilA (Ab.get tm x)) := by
  rw [WDoD_next _ _ _ _ _ _ _ _ _ _ _ (by intro f a t h; cases h)]
  have e : evalOp E.tt (.nilCheck x) (freshOf ⟨dst, .nilCheck x, ty, pos, af, g⟩ i clk) (Ab.get tm) hp = nilA (Ab.get tm x) := by
    simp only [evalOp]
    cases Ab.get tm x <;> rfl
  simp only [e, seen, Op.operands, List.flatMap_cons, List.flatMap_nil, List.append_nil]
@[go_sem] theorem WDoD_binOp (op : BinOp) (t t' : TypeId) (x y : Operand) : WDoD P E ops i ⟨dst, .binOp op t x y t', ty, pos, af, g⟩ rest tm hp clk acc QD = WNextD P E ops i rest dst tm hp clk (namesA (Ab.get tm x) ++ namesA (Ab.get tm y)) acc QD (oneCh (binA E.tt op t (Ab.get tm x) (Ab.get tm y))) := by
  rw [WDoD_next _ _ _ _ _ _ _ _ _ _ _ (by intro f a t h; cases h)]
  simp only [seen, Op.operands, List.flatMap_cons, List.flatMap_nil, List.append_nil]
  rfl
@[go_sem] theorem WDoD_unOp (op : UnOp) (t : TypeId) (x : Operand) : WDoD P E ops i ⟨dst, .unOp op t x, ty, pos, af, g⟩ rest tm hp clk acc QD = WNextD P E ops i rest dst tm hp clk (namesA (Ab.get tm x)) acc QD (oneCh (unA op (Ab.get tm x))) := by
  rw [WDoD_next _ _ _ _ _ _ _ _ _ _ _ (by intro f a t h; cases h)]
  simp only [seen, Op.operands, List.flatMap_cons, List.flatMap_nil, List.append_nil]
  rfl
@[go_sem] theorem WDoD_convert (s d : TypeId) (x : Operand) : WDoD P E ops i ⟨dst, .convert s d x, ty, pos, af, g⟩ rest tm hp clk acc QD = WNextD P E ops i rest dst tm hp clk (namesA (Ab.get tm x)) acc QD (oneCh (convA E.tt s d (Ab.get tm x) hp)) := by
  rw [WDoD_next _ _ _ _ _ _ _ _ _ _ _ (by intro f a t h; cases h)]
  simp only [seen, Op.operands, List.flatMap_cons, List.flatMap_nil, List.append_nil]
  rfl
@[go_sem] theorem WDoD_makeSlice (t : TypeId) (x y : Operand) : WDoD P E ops i ⟨dst, .makeSlice t x y, ty, pos, af, g⟩ rest tm hp clk acc QD = WNextD P E ops i rest dst tm hp clk (namesA (Ab.get tm x) ++ namesA (Ab.get tm y)) acc QD (makeA E.tt t (.loc (dst.getD 0) i clk) (Ab.get tm x) (Ab.get tm y)) := by
  rw [WDoD_next _ _ _ _ _ _ _ _ _ _ _ (by intro f a t h; cases h)]
  simp only [seen, Op.operands, List.flatMap_cons, List.flatMap_nil, List.append_nil]
  rfl
@[go_sem] theorem WDoD_slice (t : TypeId) (x : Operand) (lo hi mx : Option Operand) : WDoD P E ops i ⟨dst, .slice t x lo hi mx, ty, pos, af, g⟩ rest tm hp clk acc QD = WNextD P E ops i rest dst tm hp clk (namesA (Ab.get tm x) ++ (lo.toList ++ hi.toList ++ mx.toList).flatMap fun x => namesA (Ab.get tm x)) acc QD (sliceA E.tt t (Ab.get tm x) (lo.map (Ab.get tm)) (hi.map (Ab.get tm)) (mx.map (Ab.get tm)) hp) := by
  rw [WDoD_next _ _ _ _ _ _ _ _ _ _ _ (by intro f a t h; cases h)]
  have e : (.slice t x lo hi mx : Op).operands.toList = x :: (lo.toList ++ hi.toList ++ mx.toList) := by cases lo <;> cases hi <;> cases mx <;> rfl
  simp only [seen, e, List.flatMap_cons]
  rfl
@[go_sem] theorem WDoD_fieldAddr (t : TypeId) (x : Operand) (f : Nat) : WDoD P E ops i ⟨dst, .fieldAddr t x f, ty, pos, af, g⟩ rest tm hp clk acc QD = WNextD P E ops i rest dst tm hp clk (namesA (Ab.get tm x)) acc QD (oneCh (fieldAddrA E.tt t (Ab.get tm x) f)) := by
  rw [WDoD_next _ _ _ _ _ _ _ _ _ _ _ (by intro f a t h; cases h)]
  simp only [seen, Op.operands, List.flatMap_cons, List.flatMap_nil, List.append_nil]
  rfl
@[go_sem] theorem WDoD_field (t : TypeId) (x : Operand) (f : Nat) : WDoD P E ops i ⟨dst, .field t x f, ty, pos, af, g⟩ rest tm hp clk acc QD = WNextD P E ops i rest dst tm hp clk (namesA (Ab.get tm x)) acc QD (oneCh (fieldA E.tt t (Ab.get tm x) f)) := by
  rw [WDoD_next _ _ _ _ _ _ _ _ _ _ _ (by intro f a t h; cases h)]
  simp only [seen, Op.operands, List.flatMap_cons, List.flatMap_nil, List.append_nil]
  rfl
@[go_sem] theorem WDoD_indexAddr (t : TypeId) (x y : Operand) : WDoD P E ops i ⟨dst, .indexAddr t x y, ty, pos, af, g⟩ rest tm hp clk acc QD = WNextD P E ops i rest dst tm hp clk (namesA (Ab.get tm x) ++ namesA (Ab.get tm y)) acc QD (oneCh (indexAddrA E.tt t (Ab.get tm x) (Ab.get tm y))) := by
  rw [WDoD_next _ _ _ _ _ _ _ _ _ _ _ (by intro f a t h; cases h)]
  simp only [seen, Op.operands, List.flatMap_cons, List.flatMap_nil, List.append_nil]
  rfl
@[go_sem] theorem WDoD_index (t : TypeId) (x y : Operand) : WDoD P E ops i ⟨dst, .index t x y, ty, pos, af, g⟩ rest tm hp clk acc QD = WNextD P E ops i rest dst tm hp clk (namesA (Ab.get tm x) ++ namesA (Ab.get tm y)) acc QD (oneCh (indexA E.tt t (Ab.get tm x) (Ab.get tm y))) := by
  rw [WDoD_next _ _ _ _ _ _ _ _ _ _ _ (by intro f a t h; cases h)]
  simp only [seen, Op.operands, List.flatMap_cons, List.flatMap_nil, List.append_nil]
  rfl
@[go_sem] theorem WDoD_extract (x : Operand) (ix : Nat) : WDoD P E ops i ⟨dst, .extract x ix, ty, pos, af, g⟩ rest tm hp clk acc QD = WNextD P E ops i rest dst tm hp clk (namesA (Ab.get tm x)) acc QD (extA ix (Ab.get tm x)) := by
  rw [WDoD_next _ _ _ _ _ _ _ _ _ _ _ (by intro f a t h; cases h)]
  have e : evalOp E.tt (.extract x ix) (freshOf ⟨dst, .extract x ix, ty, pos, af, g⟩ i clk) (Ab.get tm) hp = extA ix (Ab.get tm x) := by
    simp only [evalOp]
    cases Ab.get tm x <;> rfl
  simp only [e, seen, Op.operands, List.flatMap_cons, List.flatMap_nil, List.append_nil]
@[go_sem] theorem WDoD_builtin (b : Builtin) (args : Array Operand) (ts : Array TypeId) : WDoD P E ops i ⟨dst, .call ⟨.builtin b, args, ts⟩, ty, pos, af, g⟩ rest tm hp clk acc QD = WNextD P E ops i rest dst tm hp clk (args.toList.flatMap fun x => namesA (Ab.get tm x)) acc QD (builtinA E.tt b ts.toList (.loc (dst.getD 0) i clk) (args.toList.map (Ab.get tm)) hp) := by
  rw [WDoD_next _ _ _ _ _ _ _ _ _ _ _ (by intro f a t h; cases h)]
  have e : (.call ⟨.builtin b, args, ts⟩ : Op).operands.toList = args.toList := by simp [Op.operands, Call.operands]
  simp only [seen, e]
  rfl
end

/-! ### calls -/

/-- A call, its arguments made ready. -/
def WCallP (P : Program) (E : Env) (ops : Array Oper) (i : Nat) (rest : List Oper) (dst : Option Tmp) (tm : Nat → AV) (hp : HP) (clk : Nat) (Q : St → Prop) (fid : FuncId) : Option Pr → Prop
  | some pr => distinct pr.names pr.ns = true ∧ CallsA P fid pr.args pr.given fun rs objs' ex =>
      WOps P E ops (i + 1) rest ⟨put tm dst (resA (rs.map (rvA (.loc (dst.getD 0) i clk) pr.objs ex))), chg hp (sealCh hp pr.ns ++ backCh pr.objs objs' ++ exCh (.loc (dst.getD 0) i clk) ex), clk⟩ Q
  | none => False

def WCallR (P : Program) (E : Env) (ops : Array Oper) (i : Nat) (rest : List Oper) (dst : Option Tmp) (tm : Nat → AV) (hp : HP) (clk : Nat) (Q : St → Prop) (fid : FuncId) (args : List AV) (objs : List (Option (Nm × Ob))) (ns : List Nm) : Prop :=
  WCallP P E ops i rest dst tm hp clk Q fid (some ⟨args, objs, ns⟩)

def WCallDP (P : Program) (E : Env) (ops : Array Oper) (i : Nat) (rest : List Oper) (dst : Option Tmp) (tm : Nat → AV) (hp : HP) (clk : Nat) (see : List Nm) (acc : List Rec) (Q : St → List Rec → Prop) (fid : FuncId) : Option Pr → Prop
  | some pr => distinct pr.names pr.ns = true ∧ ∃ rs objs' ex, CallsA P fid pr.args pr.given (fun a b c => a = rs ∧ b = objs' ∧ c = ex) ∧
      WOpsD P E ops (i + 1) rest ⟨put tm dst (resA (rs.map (rvA (.loc (dst.getD 0) i clk) pr.objs ex))), chg hp (sealCh hp pr.ns ++ backCh pr.objs objs' ++ exCh (.loc (dst.getD 0) i clk) ex), clk⟩
        (⟨i, see, (sealCh hp pr.ns ++ backCh pr.objs objs' ++ exCh (.loc (dst.getD 0) i clk) ex).map (·.1)⟩ :: acc) Q
  | none => False

def WCallDR (P : Program) (E : Env) (ops : Array Oper) (i : Nat) (rest : List Oper) (dst : Option Tmp) (tm : Nat → AV) (hp : HP) (clk : Nat) (see : List Nm) (acc : List Rec) (Q : St → List Rec → Prop) (fid : FuncId) (args : List AV) (objs : List (Option (Nm × Ob))) (ns : List Nm) : Prop :=
  WCallDP P E ops i rest dst tm hp clk see acc Q fid (some ⟨args, objs, ns⟩)

section
variable (P : Program) (E : Env) (tm : Nat → AV) (hp : HP) (clk : Nat) (ops : Array Oper) (i : Nat) (rest : List Oper) (Q : St → Prop) (QD : St → List Rec → Prop) (acc : List Rec) (dst : Option Tmp) (ty : TypeId) (pos : String) (af : Array Edge) (g : Option (Nat × Bool))

@[go_sem] theorem WCallK_fn (fid : FuncId) (args : List AV) : WCallK P E ops i rest dst tm hp clk Q (.fn fid) args = WCallP P E ops i rest dst tm hp clk Q fid (prep (E.byref fid) hp 0 args) := by
  unfold WCallK WCall WCallP
  simp only
  cases prep (E.byref fid) hp 0 args <;> rfl
@[go_sem] theorem WCallP_some (fid : FuncId) (args : List AV) (objs : List (Option (Nm × Ob))) (ns : List Nm) : WCallP P E ops i rest dst tm hp clk Q fid (some ⟨args, objs, ns⟩) = WCallR P E ops i rest dst tm hp clk Q fid args objs ns := (rfl)

def WCallDK (f : AV) (args : List AV) (see : List Nm) : Prop :=
  WCallD P E (.loc (dst.getD 0) i clk) f args hp fun v ch => WOpsD P E ops (i + 1) rest ⟨put tm dst v, chg hp ch, clk⟩ (⟨i, see, ch.map (·.1)⟩ :: acc) QD
@[go_sem] theorem WDoD_call (f : Operand) (args : Array Operand) (ts : Array TypeId) : WDoD P E ops i ⟨dst, .call ⟨.value f, args, ts⟩, ty, pos, af, g⟩ rest tm hp clk acc QD =
    WCallDK P E tm hp clk ops i rest QD acc dst (Ab.get tm f) (args.toList.map (Ab.get tm)) (namesA (Ab.get tm f) ++ args.toList.flatMap fun x => namesA (Ab.get tm x)) := by
  have e : (Op.call ⟨.value f, args, ts⟩).operands.toList = f :: args.toList := by simp [Op.operands, Call.operands]
  unfold WDoD WOpD WCallDK
  simp only [seen, e, List.flatMap_cons]
  rfl
@[go_sem] theorem WCallDK_fn (fid : FuncId) (args : List AV) (see : List Nm) : WCallDK P E tm hp clk ops i rest QD acc dst (.fn fid) args see = WCallDP P E ops i rest dst tm hp clk see acc QD fid (prep (E.byref fid) hp 0 args) := by
  unfold WCallDK WCallD WCallDP
  simp only
  cases prep (E.byref fid) hp 0 args <;> rfl
@[go_sem] theorem WCallDP_some (see : List Nm) (fid : FuncId) (args : List AV) (objs : List (Option (Nm × Ob))) (ns : List Nm) : WCallDP P E ops i rest dst tm hp clk see acc QD fid (some ⟨args, objs, ns⟩) = WCallDR P E ops i rest dst tm hp clk see acc QD fid args objs ns := (rfl)
end

/-- What a function does, one thing. -/
def FDoes (P : Program) (f : FuncId) (args : List AV) (objs : List (Option Ob)) (rs : List RV) (objs' : List (Option Ob)) (ex : Option Ob) : Prop := CallsA P f args objs fun a b c => a = rs ∧ b = objs' ∧ c = ex

section
variable {P : Program} {E : Env} {tm : Nat → AV} {hp : HP} {clk : Nat} {ops : Array Oper} {i : Nat} {rest : List Oper} {Q : St → Prop} {QD : St → List Rec → Prop} {acc : List Rec} {dst : Option Tmp}

/-- A call of a function that does one thing. -/
theorem WCallR_does {fid : FuncId} {args : List AV} {objs : List (Option (Nm × Ob))} {ns : List Nm} {given objs' : List (Option Ob)} {rs : List RV} {ex : Option Ob} (h : FDoes P fid args given rs objs' ex) (hg : objs.map (fun o => o.map (·.2)) = given) (hd : distinct (objs.filterMap fun o => o.map (·.1)) ns = true)
    (hk : WOps P E ops (i + 1) rest ⟨put tm dst (resA (rs.map (rvA (.loc (dst.getD 0) i clk) objs ex))), chg hp (sealCh hp ns ++ backCh objs objs' ++ exCh (.loc (dst.getD 0) i clk) ex), clk⟩ Q) :
    WCallR P E ops i rest dst tm hp clk Q fid args objs ns := by
  subst hg
  refine ⟨hd, CallsA.mono h ?_⟩
  rintro a b c ⟨rfl, rfl, rfl⟩
  exact hk

/-- A call of a function of which something is known. -/
theorem WCallR_any {fid : FuncId} {args : List AV} {objs : List (Option (Nm × Ob))} {ns : List Nm} {given : List (Option Ob)} {R : List RV → List (Option Ob) → Option Ob → Prop} (h : CallsA P fid args given R) (hg : objs.map (fun o => o.map (·.2)) = given) (hd : distinct (objs.filterMap fun o => o.map (·.1)) ns = true)
    (hk : ∀ rs objs' ex, R rs objs' ex → WOps P E ops (i + 1) rest ⟨put tm dst (resA (rs.map (rvA (.loc (dst.getD 0) i clk) objs ex))), chg hp (sealCh hp ns ++ backCh objs objs' ++ exCh (.loc (dst.getD 0) i clk) ex), clk⟩ Q) :
    WCallR P E ops i rest dst tm hp clk Q fid args objs ns := by
  subst hg
  exact ⟨hd, CallsA.mono h hk⟩

theorem WCallDR_does {see : List Nm} {fid : FuncId} {args : List AV} {objs : List (Option (Nm × Ob))} {ns : List Nm} {given objs' : List (Option Ob)} {rs : List RV} {ex : Option Ob} (h : FDoes P fid args given rs objs' ex) (hg : objs.map (fun o => o.map (·.2)) = given) (hd : distinct (objs.filterMap fun o => o.map (·.1)) ns = true)
    (hk : WOpsD P E ops (i + 1) rest ⟨put tm dst (resA (rs.map (rvA (.loc (dst.getD 0) i clk) objs ex))), chg hp (sealCh hp ns ++ backCh objs objs' ++ exCh (.loc (dst.getD 0) i clk) ex), clk⟩
        (⟨i, see, (sealCh hp ns ++ backCh objs objs' ++ exCh (.loc (dst.getD 0) i clk) ex).map (·.1)⟩ :: acc) QD) :
    WCallDR P E ops i rest dst tm hp clk see acc QD fid args objs ns := by
  subst hg
  exact ⟨hd, rs, objs', ex, h, hk⟩
end

/-! ### ends -/

theorem confFree_or (bs : Array Nat) (acc : List Rec) : confFree bs acc = ((acc.all fun r => r.wr.isEmpty) || confFree bs acc) := by
  cases h : acc.all fun r => r.wr.isEmpty with
  | false => rfl
  | true =>
    rw [Bool.true_or]
    unfold confFree
    rw [List.all_eq_true]
    intro r hr
    rw [List.all_eq_true.1 h r hr, Bool.true_or]

@[go_sem] theorem RegDK_app (ops : Array Oper) (Q : Exit → St → Prop) (tm : Nat → AV) (hp : HP) (clk : Nat) (acc : List Rec) : RegDK ops Q ⟨tm, hp, clk⟩ acc = ((((acc.all fun r => r.wr.isEmpty) || confFree (ahead ops) acc) = true) ∧ Q .normal ⟨tm, hp, clk + 1⟩) := by
  rw [← confFree_or]; rfl

/-- The end of a function. -/
def EndK (E : Env) (keep : Bool) (rs : List ResultVar) (objs : List (Option Ob)) (Q : List RV → List (Option Ob) → Option Ob → Prop) : Exit → St → Prop := fun e st =>
  (match e with | .normal | .ret => True | _ => False) ∧ WFin E.tt keep rs objs st Q
@[go_sem] theorem EndK_ret (E : Env) (keep : Bool) (rs : List ResultVar) (objs : List (Option Ob)) (Q : List RV → List (Option Ob) → Option Ob → Prop) (st : St) : EndK E keep rs objs Q .ret st = WFin E.tt keep rs objs st Q := by simp [EndK]
@[go_sem] theorem EndK_normal (E : Env) (keep : Bool) (rs : List ResultVar) (objs : List (Option Ob)) (Q : List RV → List (Option Ob) → Option Ob → Prop) (st : St) : EndK E keep rs objs Q .normal st = WFin E.tt keep rs objs st Q := by simp [EndK]

def OneQ (rs : List RV) (objs' : List (Option Ob)) (ex : Option Ob) (a : List RV) (b : List (Option Ob)) (c : Option Ob) : Prop := a = rs ∧ b = objs' ∧ c = ex
@[go_sem] theorem OneQ_eq (rs : List RV) (objs' : List (Option Ob)) (ex : Option Ob) (a : List RV) (b : List (Option Ob)) (c : Option Ob) : OneQ rs objs' ex a b c = (a = rs ∧ b = objs' ∧ c = ex) := (rfl)

/-- What a function does, by its text. -/
theorem FDoes.of {P : Program} {E : Env} (hT : TTok P E.tt) (hm : P.follows .mixedOrders = true) {f : FuncId} {fn : Func} {c : Code} (hf : P.funcs[f]? = some fn) (hname : (fn.name == "runtime.NumGoroutine") = false) (hb : fn.body = some c) (hok : codeOK fn.ntmps c = true) {args : List AV} {objs : List (Option Ob)}
    {rl : List ResultVar} (hr : fn.results.toList = rl) (hargs : args.length ≤ fn.ntmps) (keep : Bool) {rs : List RV} {objs' : List (Option Ob)} {ex : Option Ob}
    (h : W P E c (St0 args objs) (EndK E keep rl objs (OneQ rs objs' ex))) : FDoes P f args objs rs objs' ex := by
  subst hr
  exact CallsA.of_W hT (draw_ok hT hm) hf hname hb hok hargs keep h

/-- What is known of what a function does, by its text. -/
theorem CallsA.of {P : Program} {E : Env} (hT : TTok P E.tt) (hm : P.follows .mixedOrders = true) {f : FuncId} {fn : Func} {c : Code} (hf : P.funcs[f]? = some fn) (hname : (fn.name == "runtime.NumGoroutine") = false) (hb : fn.body = some c) (hok : codeOK fn.ntmps c = true) {args : List AV} {objs : List (Option Ob)}
    {rl : List ResultVar} (hr : fn.results.toList = rl) (hargs : args.length ≤ fn.ntmps) (keep : Bool) {Q : List RV → List (Option Ob) → Option Ob → Prop}
    (h : W P E c (St0 args objs) (EndK E keep rl objs Q)) : CallsA P f args objs Q := by
  subst hr
  exact CallsA.of_W hT (draw_ok hT hm) hf hname hb hok hargs keep h

attribute [go_sem] St0 List.getElem?_cons_zero List.getElem?_cons_succ List.getElem?_nil Option.getD_some Option.getD_none List.map_cons List.map_nil Option.map_some Option.map_none Option.bind_some Option.bind_none Option.join_some Option.join_none
  Array.getElem?_toList List.getElem?_toArray Option.toList_some Option.toList_none List.filterMap_cons List.filterMap_nil List.flatMap_cons List.flatMap_nil List.append_nil List.nil_append List.cons_append List.isEmpty_nil List.isEmpty_cons List.all_cons List.all_nil List.any_cons List.any_nil
  Bool.true_and Bool.and_true Bool.false_and Bool.and_false Bool.true_or Bool.or_true Bool.false_or Bool.or_false Bool.not_true Bool.not_false Bool.or_self Bool.and_self cond_true cond_false
  forall_const not_false_eq_true Bool.true_eq_false Bool.false_eq_true false_implies and_true true_and ne_eq not_true_eq_false imp_self implies_true and_self or_self or_true true_or or_false false_or if_true if_false decide_true decide_false decide_eq_true_eq false_and and_false eq_self true_implies not_false_iff not_true
  Nm.loc.injEq Nm.arg.injEq beq_true beq_false Bool.false_beq Bool.true_beq beq_self_eq_true
  List.length_cons List.length_nil Nat.zero_add Nat.add_zero List.take_succ_cons List.take_zero List.drop_succ_cons List.drop_zero List.take_nil List.drop_nil Nat.zero_le Nat.le_refl Int.toNat_natCast Nat.mul_one Nat.one_mul Nat.mul_zero Nat.zero_mul
  Nat.reduceAdd Nat.reduceSub Nat.reduceMul Nat.reduceEqDiff Nat.reduceLT Nat.reduceLeDiff Nat.reduceBEq reduceCtorEq Int.reduceToNat Int.reduceLT Int.reduceLE Int.reduceGT Int.reduceGE Nat.reduceGT Int.reduceEq Int.reduceNeg Int.reduceAdd Int.reduceSub Int.reduceMul Int.reduceDiv reduceIte
attribute [go_sem] takeA loadA storeA fillA over arrCells sealA sealV sealV.go sealCh bytesC intA strA shiftA eqA binA unA convA boundA sliceA fieldAddrA partA fieldA indexAddrA indexA lenA newsA appendA copyA makeA buildA buildA.placesA partsA buildSliceA allocA boxA builtinA
  chunk nf nf.nfs TD.isAgg prep prep1 distinct resA rvA backCh exCh HPof WFin retsA valA retA backObjs
@[go_sem] theorem cellsOf_bool (b : Bool) : cellsOf (.bool b) = some [.bool b] := (rfl)
@[go_sem] theorem one_bool (b : Bool) : one (.bool b) = true := (rfl)
@[go_sem] theorem namesC_bool (b : Bool) : namesA (.bool b) = [] := (rfl)
@[go_sem] theorem cellsOf_int (k : IntKind) (n : Int) : cellsOf (.int k n) = some [.int k n] := (rfl)
@[go_sem] theorem one_int (k : IntKind) (n : Int) : one (.int k n) = true := (rfl)
@[go_sem] theorem namesC_int (k : IntKind) (n : Int) : namesA (.int k n) = [] := (rfl)
@[go_sem] theorem cellsOf_str (l : List UInt8) : cellsOf (.str l) = some [.str l] := (rfl)
@[go_sem] theorem one_str (l : List UInt8) : one (.str l) = true := (rfl)
@[go_sem] theorem namesC_str (l : List UInt8) : namesA (.str l) = [] := (rfl)
@[go_sem] theorem cellsOf_sl (a : Bool) (b : Nat) (c : List (List AV)) (d : Bool) : cellsOf (.sl a b c d) = some [.sl a b c d] := (rfl)
@[go_sem] theorem one_sl (a : Bool) (b : Nat) (c : List (List AV)) (d : Bool) : one (.sl a b c d) = true := (rfl)
@[go_sem] theorem namesC_sl (a : Bool) (b : Nat) (c : List (List AV)) (d : Bool) : namesA (.sl a b c d) = [] := (rfl)
@[go_sem] theorem cellsOf_nilp  : cellsOf (.nilp) = some [.nilp] := (rfl)
@[go_sem] theorem one_nilp  : one (.nilp) = true := (rfl)
@[go_sem] theorem namesC_nilp  : namesA (.nilp) = [] := (rfl)
@[go_sem] theorem cellsOf_nilif  : cellsOf (.nilif) = some [.nilif] := (rfl)
@[go_sem] theorem one_nilif  : one (.nilif) = true := (rfl)
@[go_sem] theorem namesC_nilif  : namesA (.nilif) = [] := (rfl)
@[go_sem] theorem cellsOf_nilfn  : cellsOf (.nilfn) = some [.nilfn] := (rfl)
@[go_sem] theorem one_nilfn  : one (.nilfn) = true := (rfl)
@[go_sem] theorem namesC_nilfn  : namesA (.nilfn) = [] := (rfl)
@[go_sem] theorem cellsOf_iface (t : TypeId) (v : AV) : cellsOf (.iface t v) = some [.iface t v] := (rfl)
@[go_sem] theorem one_iface (t : TypeId) (v : AV) : one (.iface t v) = true := (rfl)
@[go_sem] theorem namesC_iface (t : TypeId) (v : AV) : namesA (.iface t v) = [] := (rfl)
@[go_sem] theorem cellsOf_fn (f : FuncId) : cellsOf (.fn f) = some [.fn f] := (rfl)
@[go_sem] theorem one_fn (f : FuncId) : one (.fn f) = true := (rfl)
@[go_sem] theorem namesC_fn (f : FuncId) : namesA (.fn f) = [] := (rfl)
@[go_sem] theorem cellsOf_ref (nm : Nm) (off : Nat) : cellsOf (.ref nm off) = some [.ref nm off] := (rfl)
@[go_sem] theorem one_ref (nm : Nm) (off : Nat) : one (.ref nm off) = true := (rfl)
@[go_sem] theorem namesC_ref (nm : Nm) (off : Nat) : namesA (.ref nm off) = [nm] := (rfl)
@[go_sem] theorem cellsOf_pc (cs : List AV) : cellsOf (.pc cs) = some [.pc cs] := (rfl)
@[go_sem] theorem one_pc (cs : List AV) : one (.pc cs) = true := (rfl)
@[go_sem] theorem namesC_pc (cs : List AV) : namesA (.pc cs) = [] := (rfl)
@[go_sem] theorem cellsOf_arr (nm : Nm) (a b c : Nat) : cellsOf (.arr nm a b c) = some [.arr nm a b c] := (rfl)
@[go_sem] theorem one_arr (nm : Nm) (a b c : Nat) : one (.arr nm a b c) = true := (rfl)
@[go_sem] theorem namesC_arr (nm : Nm) (a b c : Nat) : namesA (.arr nm a b c) = [nm] := (rfl)
@[go_sem] theorem cellsOf_agg (cs : List AV) : cellsOf (.agg cs) = some cs := (rfl)
@[go_sem] theorem one_agg (cs : List AV) : one (.agg cs) = false := (rfl)
@[go_sem] theorem namesC_agg (cs : List AV) : namesA (.agg cs) = if nf.nfs cs = true then [] else namesA.go cs := (rfl)
@[go_sem] theorem namesC_tup (cs : List AV) : namesA (.tup cs) = [] := (rfl)
attribute [go_sem] namesA.go
@[go_sem] theorem int_beq (a b : Int) : (a == b) = decide (a = b) := by by_cases h : a = b <;> simp [h]
@[go_sem] theorem int_bne (a b : Int) : (a != b) = !decide (a = b) := by by_cases h : a = b <;> simp [h]
@[go_sem] theorem pickA_tup1 (t : Bool) (l : List AV) (y : AV) : pickA (.bool t) (.tup l) y = some (if t = true then .tup l else y, []) := (rfl)
@[go_sem] theorem pickA_tup2 (t x : Bool) (l : List AV) : pickA (.bool t) (.bool x) (.tup l) = some (if t = true then .bool x else .tup l, []) := (rfl)
@[go_sem] theorem cast_nonneg (n : Nat) : (0 ≤ (n : Int)) = True := by simp
@[go_sem] theorem cast_not_neg (n : Nat) : ((n : Int) < 0) = False := by simp
@[go_sem] theorem cast_zero : ((0 : Nat) : Int) = 0 := (rfl)
@[go_sem] theorem cast_one : ((1 : Nat) : Int) = 1 := (rfl)
attribute [go_sem] Int.cast_ofNat_Int
end Go.Ab
