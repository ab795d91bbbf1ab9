/- THE ABSTRACT MACHINE, 17: the weakest precondition, step by step, as rules for simp (go_sem). Conditions: none. -/
import Derived.Test.YthbbollhojdjdaaAbUse
namespace Go.Ab

def SeqK (P : Program) (E : Env) (c : Code) (Q : Exit → St → Prop) : Exit → St → Prop := fun e st' => match e with
  | .normal => W P E c st' Q
  | e => Q e st'
def BlockK (id : Nat) (Q : Exit → St → Prop) : Exit → St → Prop := fun e st' => match e with
  | .exit id' => if id' = id then Q .normal st' else Q (.exit id') st'
  | e => Q e st'
def ScopeK (Q : Exit → St → Prop) : Exit → St → Prop := fun e st' => match e with
  | .goto _ => False
  | e => Q e st'
def RegK (Q : Exit → St → Prop) : St → Prop := fun st' => Q .normal st'.tick
def RegDK (ops : Array Oper) (Q : Exit → St → Prop) : St → List Rec → Prop := fun st' acc => confFree (ahead ops) acc = true ∧ Q .normal st'.tick
def CondK (P : Program) (E : Env) (a b : Code) (st : St) (Q : Exit → St → Prop) : AV → Prop
  | .bool t => (t = true → W P E a st Q) ∧ (t = false → W P E b st Q)
  | _ => False

section
variable (P : Program) (E : Env) (a b c : Code) (tm : Nat → AV) (hp : HP) (clk : Nat) (st : St) (Q : Exit → St → Prop) (ops : Array Oper)

@[go_sem] theorem W_skip : W P E .skip st Q = Q .normal st := (rfl)
@[go_sem] theorem W_label (l : Nat) : W P E (.label l) st Q = Q .normal st := (rfl)
@[go_sem] theorem W_seq : W P E (.seq a b) st Q = W P E a st (SeqK P E b Q) := (rfl)
theorem W_cond (x : Operand) : W P E (.cond x a b) ⟨tm, hp, clk⟩ Q = CondK P E a b ⟨tm, hp, clk⟩ Q (Ab.get tm x) := by
  simp only [W]
  cases Ab.get tm x <;> rfl
theorem W_block (id : Nat) : W P E (.block id c) st Q = W P E c st (BlockK id Q) := (rfl)
@[go_sem] theorem W_scope : W P E (.scope c) st Q = W P E c st (ScopeK Q) := (rfl)
@[go_sem] theorem W_exit (id : Nat) : W P E (.exit id) st Q = Q (.exit id) st := (rfl)
@[go_sem] theorem W_ret : W P E .ret st Q = Q .ret st := (rfl)
@[go_sem] theorem W_region (id : Nat) : W P E (.region id ops false) st Q = WOps P E ops 0 ops.toList st (RegK Q) := (rfl)
@[go_sem] theorem W_region_draw (id : Nat) : W P E (.region id ops true) st Q = WOpsD P E ops 0 ops.toList st [] (RegDK ops Q) := (rfl)

@[go_sem] theorem SeqK_normal : SeqK P E c Q .normal st = W P E c st Q := (rfl)
@[go_sem] theorem SeqK_exit (id : Nat) : SeqK P E c Q (.exit id) st = Q (.exit id) st := (rfl)
@[go_sem] theorem SeqK_goto (id : Nat) : SeqK P E c Q (.goto id) st = Q (.goto id) st := (rfl)
@[go_sem] theorem SeqK_ret : SeqK P E c Q .ret st = Q .ret st := (rfl)
@[go_sem] theorem BlockK_normal (id : Nat) : BlockK id Q .normal st = Q .normal st := (rfl)
@[go_sem] theorem BlockK_exit (id id' : Nat) : BlockK id Q (.exit id') st = if id' = id then Q .normal st else Q (.exit id') st := (rfl)
@[go_sem] theorem BlockK_ret (id : Nat) : BlockK id Q .ret st = Q .ret st := (rfl)
@[go_sem] theorem ScopeK_normal : ScopeK Q .normal st = Q .normal st := (rfl)
@[go_sem] theorem ScopeK_exit (id : Nat) : ScopeK Q (.exit id) st = Q (.exit id) st := (rfl)
@[go_sem] theorem ScopeK_ret : ScopeK Q .ret st = Q .ret st := (rfl)
@[go_sem] theorem RegK_app : RegK Q ⟨tm, hp, clk⟩ = Q .normal ⟨tm, hp, clk + 1⟩ := (rfl)
@[go_sem] theorem CondK_bool (t : Bool) : CondK P E a b st Q (.bool t) = ((t = true → W P E a st Q) ∧ (t = false → W P E b st Q)) := (rfl)
@[go_sem] theorem CondK_true : CondK P E a b st Q (.bool true) = W P E a st Q := by simp [CondK]
@[go_sem] theorem CondK_false : CondK P E a b st Q (.bool false) = W P E b st Q := by simp [CondK]
end

/-- Behind an operation that is no call. -/
def WNext (P : Program) (E : Env) (ops : Array Oper) (i : Nat) (rest : List Oper) (dst : Option Tmp) (tm : Nat → AV) (hp : HP) (clk : Nat) (Q : St → Prop) : Option (AV × Ch) → Prop
  | some (v, ch) => WOps P E ops (i + 1) rest ⟨put tm dst v, chg hp ch, clk⟩ Q
  | none => False

def WNextD (P : Program) (E : Env) (ops : Array Oper) (i : Nat) (rest : List Oper) (dst : Option Tmp) (tm : Nat → AV) (hp : HP) (clk : Nat) (see : List Nm) (acc : List Rec) (Q : St → List Rec → Prop) : Option (AV × Ch) → Prop
  | some (v, ch) => WOpsD P E ops (i + 1) rest ⟨put tm dst v, chg hp ch, clk⟩ (⟨i, see, ch.map (·.1)⟩ :: acc) Q
  | none => False

def WDo (P : Program) (E : Env) (ops : Array Oper) (i : Nat) (o : Oper) (rest : List Oper) (tm : Nat → AV) (hp : HP) (clk : Nat) (Q : St → Prop) : Prop :=
  WOp P E i o ⟨tm, hp, clk⟩ fun v ch => WOps P E ops (i + 1) rest ((⟨tm, hp, clk⟩ : St).app o v ch) Q

def WDoD (P : Program) (E : Env) (ops : Array Oper) (i : Nat) (o : Oper) (rest : List Oper) (tm : Nat → AV) (hp : HP) (clk : Nat) (acc : List Rec) (Q : St → List Rec → Prop) : Prop :=
  WOpD P E i o ⟨tm, hp, clk⟩ fun v ch => WOpsD P E ops (i + 1) rest ((⟨tm, hp, clk⟩ : St).app o v ch) (⟨i, seen o.op tm, ch.map (·.1)⟩ :: acc) Q

def WGuard (P : Program) (E : Env) (ops : Array Oper) (i : Nat) (o : Oper) (rest : List Oper) (tm : Nat → AV) (hp : HP) (clk : Nat) (Q : St → Prop) : Option Bool → Prop
  | some true => WDo P E ops i o rest tm hp clk Q
  | some false => WOps P E ops (i + 1) rest ⟨put tm o.dst (.tup []), hp, clk⟩ Q
  | none => False

def WGuardD (P : Program) (E : Env) (ops : Array Oper) (i : Nat) (o : Oper) (rest : List Oper) (tm : Nat → AV) (hp : HP) (clk : Nat) (acc : List Rec) (Q : St → List Rec → Prop) : Option Bool → Prop
  | some true => WDoD P E ops i o rest tm hp clk acc Q
  | some false => WOpsD P E ops (i + 1) rest ⟨put tm o.dst (.tup []), hp, clk⟩ acc Q
  | none => False

/-- A guard's slot. -/
def wantV (want : Bool) : AV → Option Bool
  | .bool b => some (b == want)
  | .tup _ => some false
  | _ => none
def wantS (tm : Nat → AV) (want : Bool) : Option Tmp → Option Bool
  | some t => wantV want (tm t)
  | none => none

section
variable (P : Program) (E : Env) (tm : Nat → AV) (hp : HP) (clk : Nat) (ops : Array Oper) (i : Nat) (rest : List Oper) (Q : St → Prop) (QD : St → List Rec → Prop) (acc : List Rec) (dst : Option Tmp) (ty : TypeId) (pos : String) (af : Array Edge)

@[go_sem] theorem WOps_nil (st : St) : WOps P E ops i [] st Q = Q st := (rfl)
@[go_sem] theorem WOpsD_nil (st : St) : WOpsD P E ops i [] st acc QD = QD st acc := (rfl)
@[go_sem] theorem WOps_plain (op : Op) : WOps P E ops i (⟨dst, op, ty, pos, af, none⟩ :: rest) ⟨tm, hp, clk⟩ Q = WDo P E ops i ⟨dst, op, ty, pos, af, none⟩ rest tm hp clk Q := (rfl)
@[go_sem] theorem WOpsD_plain (op : Op) : WOpsD P E ops i (⟨dst, op, ty, pos, af, none⟩ :: rest) ⟨tm, hp, clk⟩ acc QD = WDoD P E ops i ⟨dst, op, ty, pos, af, none⟩ rest tm hp clk acc QD := (rfl)
theorem wantA_some (o : Oper) (j : Nat) (want : Bool) (h : o.guard = some (j, want)) : wantA ops o tm = wantS tm want ((ops[j]?).bind (·.dst)) := by
  unfold wantA
  rw [h]
  simp only
  cases (ops[j]?).bind (·.dst) with
  | none => rfl
  | some t => simp only [wantS]; cases tm t <;> rfl
@[go_sem] theorem WOps_guard (op : Op) (j : Nat) (want : Bool) : WOps P E ops i (⟨dst, op, ty, pos, af, some (j, want)⟩ :: rest) ⟨tm, hp, clk⟩ Q =
    WGuard P E ops i ⟨dst, op, ty, pos, af, some (j, want)⟩ rest tm hp clk Q (wantS tm want ((ops[j]?).bind (·.dst))) := by
  rw [← wantA_some tm ops ⟨dst, op, ty, pos, af, some (j, want)⟩ j want rfl]
  simp only [WOps]
  cases h : wantA ops ⟨dst, op, ty, pos, af, some (j, want)⟩ tm with
  | none => rfl
  | some b => cases b <;> rfl
@[go_sem] theorem WOpsD_guard (op : Op) (j : Nat) (want : Bool) : WOpsD P E ops i (⟨dst, op, ty, pos, af, some (j, want)⟩ :: rest) ⟨tm, hp, clk⟩ acc QD =
    WGuardD P E ops i ⟨dst, op, ty, pos, af, some (j, want)⟩ rest tm hp clk acc QD (wantS tm want ((ops[j]?).bind (·.dst))) := by
  rw [← wantA_some tm ops ⟨dst, op, ty, pos, af, some (j, want)⟩ j want rfl]
  simp only [WOpsD]
  cases h : wantA ops ⟨dst, op, ty, pos, af, some (j, want)⟩ tm with
  | none => rfl
  | some b => cases b <;> rfl
@[go_sem] theorem wantS_some (want : Bool) (t : Tmp) : wantS tm want (some t) = wantV want (tm t) := (rfl)
@[go_sem] theorem wantV_bool (want b : Bool) : wantV want (.bool b) = some (b == want) := (rfl)
@[go_sem] theorem wantV_tup (want : Bool) (l : List AV) : wantV want (.tup l) = some false := (rfl)
@[go_sem] theorem WGuard_true (o : Oper) : WGuard P E ops i o rest tm hp clk Q (some true) = WDo P E ops i o rest tm hp clk Q := (rfl)
@[go_sem] theorem WGuard_false (op : Op) (g : Option (Nat × Bool)) : WGuard P E ops i ⟨dst, op, ty, pos, af, g⟩ rest tm hp clk Q (some false) = WOps P E ops (i + 1) rest ⟨put tm dst (.tup []), hp, clk⟩ Q := (rfl)
@[go_sem] theorem WGuardD_true (o : Oper) : WGuardD P E ops i o rest tm hp clk acc QD (some true) = WDoD P E ops i o rest tm hp clk acc QD := (rfl)
@[go_sem] theorem WGuardD_false (op : Op) (g : Option (Nat × Bool)) : WGuardD P E ops i ⟨dst, op, ty, pos, af, g⟩ rest tm hp clk acc QD (some false) = WOpsD P E ops (i + 1) rest ⟨put tm dst (.tup []), hp, clk⟩ acc QD := (rfl)
@[go_sem] theorem WNext_some (v : AV) (ch : Ch) : WNext P E ops i rest dst tm hp clk Q (some (v, ch)) = WOps P E ops (i + 1) rest ⟨put tm dst v, chg hp ch, clk⟩ Q := (rfl)
@[go_sem] theorem WNextD_some (v : AV) (ch : Ch) (see : List Nm) : WNextD P E ops i rest dst tm hp clk see acc QD (some (v, ch)) = WOpsD P E ops (i + 1) rest ⟨put tm dst v, chg hp ch, clk⟩ (⟨i, see, ch.map (·.1)⟩ :: acc) QD := (rfl)
@[go_sem] theorem put_some (d : Tmp) (v : AV) : put tm (some d) v = upd tm d v := (rfl)
@[go_sem] theorem put_none (v : AV) : put tm none v = tm := (rfl)
@[go_sem] theorem upd_at (d : Nat) (v : AV) (t : Nat) : upd tm d v t = if t = d then v else tm t := (rfl)
@[go_sem] theorem updH_at (n : Nm) (o : Option Ob) (m : Nm) : updH hp n o m = if m = n then o else hp m := (rfl)
@[go_sem] theorem chg_nil : chg hp [] = hp := (rfl)
@[go_sem] theorem chg_cons (n : Nm) (o : Option Ob) (l : Ch) : chg hp ((n, o) :: l) = chg (updH hp n o) l := (rfl)
@[go_sem] theorem get_tmp (t : Nat) : Ab.get tm (.tmp t) = tm t := (rfl)
@[go_sem] theorem get_func (f : FuncId) : Ab.get tm (.func f) = .fn f := (rfl)
@[go_sem] theorem get_int (k : IntKind) (n : Int) : Ab.get tm (.const (.int k n)) = .int k n := (rfl)
@[go_sem] theorem get_bool (b : Bool) : Ab.get tm (.const (.bool b)) = .bool b := (rfl)
@[go_sem] theorem get_str (s : ByteArray) : Ab.get tm (.const (.string s)) = .str s.data.toList := (rfl)
@[go_sem] theorem get_nilsl : Ab.get tm (.const (.slice none 0 0)) = .sl true 0 [] true := (rfl)
@[go_sem] theorem get_nilp : Ab.get tm (.const (.pointer none)) = .nilp := (rfl)

variable (g : Option (Nat × Bool))

/-- An operation's step. -/
theorem WDo_next (o : Oper) (h : ∀ f args tys, o.op ≠ .call ⟨.value f, args, tys⟩) : WDo P E ops i o rest tm hp clk Q = WNext P E ops i rest o.dst tm hp clk Q (evalOp E.tt o.op (freshOf o i clk) (Ab.get tm) hp) := by
  unfold WDo WOp
  split
  · rename_i f args tys ho; exact absurd ho (h f args tys)
  · cases evalOp E.tt o.op (freshOf o i clk) (Ab.get tm) hp with
    | none => rfl
    | some x => rfl
theorem WDoD_next (o : Oper) (h : ∀ f args tys, o.op ≠ .call ⟨.value f, args, tys⟩) : WDoD P E ops i o rest tm hp clk acc QD = WNextD P E ops i rest o.dst tm hp clk (seen o.op tm) acc QD (evalOp E.tt o.op (freshOf o i clk) (Ab.get tm) hp) := by
  unfold WDoD WOpD
  split
  · rename_i f args tys ho; exact absurd ho (h f args tys)
  · cases evalOp E.tt o.op (freshOf o i clk) (Ab.get tm) hp with
    | none => rfl
    | some x => rfl

def pickA : AV → AV → AV → Option (AV × Ch)
  | .bool t, .bool x, .bool y => some (.bool (bif t then x else y), [])
  | .bool t, x, y => some (if t = true then x else y, [])
  | _, _, _ => none
def oneCh (v : Option AV) : Option (AV × Ch) := v.map (·, [])
@[go_sem] theorem oneCh_some (v : AV) : oneCh (some v) = some (v, []) := (rfl)
@[go_sem] theorem pickA_bool (t x y : Bool) : pickA (.bool t) (.bool x) (.bool y) = some (.bool (bif t then x else y), []) := (rfl)
def nilA : AV → Option (AV × Ch)
  | .ref nm off => some (.ref nm off, [])
  | .pc cs => some (.pc cs, [])
  | _ => none
@[go_sem] theorem nilA_ref (nm : Nm) (off : Nat) : nilA (.ref nm off) = some (.ref nm off, []) := (rfl)
@[go_sem] theorem nilA_pc (cs : List AV) : nilA (.pc cs) = some (.pc cs, []) := (rfl)
def extA (ix : Nat) : AV → Option (AV × Ch)
  | .tup vs => (vs[ix]?).map (·, [])
  | _ => none
@[go_sem] theorem extA_tup (ix : Nat) (vs : List AV) : extA ix (.tup vs) = oneCh (vs[ix]?) := (rfl)

@[go_sem] theorem WDo_move (x : Operand) : WDo P E ops i ⟨dst, .move x, ty, pos, af, g⟩ rest tm hp clk Q = WOps P E ops (i + 1) rest ⟨put tm dst (Ab.get tm x), hp, clk⟩ Q := (rfl)
@[go_sem] theorem WDo_assign (x : Operand) : WDo P E ops i ⟨dst, .assign x, ty, pos, af, g⟩ rest tm hp clk Q = WOps P E ops (i + 1) rest ⟨put tm dst (Ab.get tm x), hp, clk⟩ Q := (rfl)
@[go_sem] theorem WDo_pick (c a b : Operand) : WDo P E ops i ⟨dst, .pick c a b, ty, pos, af, g⟩ rest tm hp clk Q = WNext P E ops i rest dst tm hp clk Q (pickA (Ab.get tm c) (Ab.get tm a) (Ab.get tm b)) := by
  rw [WDo_next _ _ _ _ _ _ _ _ _ _ (by intro f a t h; cases h)]
  simp only [evalOp]
  cases Ab.get tm c <;> first | rfl | (cases Ab.get tm a <;> first | rfl | (cases Ab.get tm b <;> rfl))
@[go_sem] theorem WDo_alloc (t : TypeId) : WDo P E ops i ⟨dst, .alloc t, ty, pos, af, g⟩ rest tm hp clk Q = WNext P E ops i rest dst tm hp clk Q (allocA E.tt t (.loc (dst.getD 0) i clk)) := WDo_next _ _ _ _ _ _ _ _ _ _ (by intro f a t h; cases h)
@[go_sem] theorem WDo_box (t : TypeId) (x : Operand) : WDo P E ops i ⟨dst, .box t x, ty, pos, af, g⟩ rest tm hp clk Q = WNext P E ops i rest dst tm hp clk Q (boxA (.loc (dst.getD 0) i clk) (Ab.get tm x)) := WDo_next _ _ _ _ _ _ _ _ _ _ (by intro f a t h; cases h)
@[go_sem] theorem WDo_build (t : TypeId) (ps : Array (Nat × Operand)) : WDo P E ops i ⟨dst, .build t ps, ty, pos, af, g⟩ rest tm hp clk Q = WNext P E ops i rest dst tm hp clk Q (oneCh (buildA E.tt t (ps.toList.map fun p => (p.1, Ab.get tm p.2)))) := WDo_next _ _ _ _ _ _ _ _ _ _ (by intro f a t h; cases h)
@[go_sem] theorem WDo_buildSlice (t : TypeId) (n : Nat) (ps : Array (Nat × Operand)) : WDo P E ops i ⟨dst, .buildSlice t n ps, ty, pos, af, g⟩ rest tm hp clk Q = WNext P E ops i rest dst tm hp clk Q (buildSliceA E.tt t n (ps.toList.map fun p => (p.1, Ab.get tm p.2)) hp) := WDo_next _ _ _ _ _ _ _ _ _ _ (by intro f a t h; cases h)
@[go_sem] theorem WDo_load (t : TypeId) (x : Operand) : WDo P E ops i ⟨dst, .load t x, ty, pos, af, g⟩ rest tm hp clk Q = WNext P E ops i rest dst tm hp clk Q (oneCh (loadA E.tt t (Ab.get tm x) hp)) := WDo_next _ _ _ _ _ _ _ _ _ _ (by intro f a t h; cases h)
@[go_sem] theorem WDo_store (t : TypeId) (x y : Operand) : WDo P E ops i ⟨dst, .store t x y, ty, pos, af, g⟩ rest tm hp clk Q = WNext P E ops i rest dst tm hp clk Q (storeA E.tt t (Ab.get tm x) (Ab.get tm y) hp) := WDo_next _ _ _ _ _ _ _ _ _ _ (by intro f a t h; cases h)
@[go_sem] theorem WDo_nilCheck (x : Operand) : WDo P E ops i ⟨dst, .nilCheck x, ty, pos, af, g⟩ rest tm hp clk Q = WNext P E ops i rest dst tm hp clk Q (nilA (Ab.get tm x)) := by
  rw [WDo_next _ _ _ _ _ _ _ _ _ _ (by intro f a t h; cases h)]
  simp only [evalOp]
  cases Ab.get tm x <;> rfl
@[go_sem] theorem WDo_binOp (op : BinOp) (t t' : TypeId) (x y : Operand) : WDo P E ops i ⟨dst, .binOp op t x y t', ty, pos, af, g⟩ rest tm hp clk Q = WNext P E ops i rest dst tm hp clk Q (oneCh (binA E.tt op t (Ab.get tm x) (Ab.get tm y))) := WDo_next _ _ _ _ _ _ _ _ _ _ (by intro f a t h; cases h)
@[go_sem] theorem WDo_unOp (op : UnOp) (t : TypeId) (x : Operand) : WDo P E ops i ⟨dst, .unOp op t x, ty, pos, af, g⟩ rest tm hp clk Q = WNext P E ops i rest dst tm hp clk Q (oneCh (unA op (Ab.get tm x))) := WDo_next _ _ _ _ _ _ _ _ _ _ (by intro f a t h; cases h)
@[go_sem] theorem WDo_convert (s d : TypeId) (x : Operand) : WDo P E ops i ⟨dst, .convert s d x, ty, pos, af, g⟩ rest tm hp clk Q = WNext P E ops i rest dst tm hp clk Q (oneCh (convA E.tt s d (Ab.get tm x) hp)) := WDo_next _ _ _ _ _ _ _ _ _ _ (by intro f a t h; cases h)
@[go_sem] theorem WDo_makeSlice (t : TypeId) (x y : Operand) : WDo P E ops i ⟨dst, .makeSlice t x y, ty, pos, af, g⟩ rest tm hp clk Q = WNext P E ops i rest dst tm hp clk Q (makeA E.tt t (.loc (dst.getD 0) i clk) (Ab.get tm x) (Ab.get tm y)) := WDo_next _ _ _ _ _ _ _ _ _ _ (by intro f a t h; cases h)
@[go_sem] theorem WDo_slice (t : TypeId) (x : Operand) (lo hi mx : Option Operand) : WDo P E ops i ⟨dst, .slice t x lo hi mx, ty, pos, af, g⟩ rest tm hp clk Q = WNext P E ops i rest dst tm hp clk Q (sliceA E.tt t (Ab.get tm x) (lo.map (Ab.get tm)) (hi.map (Ab.get tm)) (mx.map (Ab.get tm)) hp) := WDo_next _ _ _ _ _ _ _ _ _ _ (by intro f a t h; cases h)
@[go_sem] theorem WDo_fieldAddr (t : TypeId) (x : Operand) (f : Nat) : WDo P E ops i ⟨dst, .fieldAddr t x f, ty, pos, af, g⟩ rest tm hp clk Q = WNext P E ops i rest dst tm hp clk Q (oneCh (fieldAddrA E.tt t (Ab.get tm x) f)) := WDo_next _ _ _ _ _ _ _ _ _ _ (by intro f a t h; cases h)
@[go_sem] theorem WDo_field (t : TypeId) (x : Operand) (f : Nat) : WDo P E ops i ⟨dst, .field t x f, ty, pos, af, g⟩ rest tm hp clk Q = WNext P E ops i rest dst tm hp clk Q (oneCh (fieldA E.tt t (Ab.get tm x) f)) := WDo_next _ _ _ _ _ _ _ _ _ _ (by intro f a t h; cases h)
@[go_sem] theorem WDo_indexAddr (t : TypeId) (x y : Operand) : WDo P E ops i ⟨dst, .indexAddr t x y, ty, pos, af, g⟩ rest tm hp clk Q = WNext P E ops i rest dst tm hp clk Q (oneCh (indexAddrA E.tt t (Ab.get tm x) (Ab.get tm y))) := WDo_next _ _ _ _ _ _ _ _ _ _ (by intro f a t h; cases h)
@[go_sem] theorem WDo_index (t : TypeId) (x y : Operand) : WDo P E ops i ⟨dst, .index t x y, ty, pos, af, g⟩ rest tm hp clk Q = WNext P E ops i rest dst tm hp clk Q (oneCh (indexA E.tt t (Ab.get tm x) (Ab.get tm y))) := WDo_next _ _ _ _ _ _ _ _ _ _ (by intro f a t h; cases h)
@[go_sem] theorem WDo_extract (x : Operand) (ix : Nat) : WDo P E ops i ⟨dst, .extract x ix, ty, pos, af, g⟩ rest tm hp clk Q = WNext P E ops i rest dst tm hp clk Q (extA ix (Ab.get tm x)) := by
  rw [WDo_next _ _ _ _ _ _ _ _ _ _ (by intro f a t h; cases h)]
  simp only [evalOp]
  cases Ab.get tm x <;> rfl
@[go_sem] theorem WDo_builtin (b : Builtin) (args : Array Operand) (ts : Array TypeId) : WDo P E ops i ⟨dst, .call ⟨.builtin b, args, ts⟩, ty, pos, af, g⟩ rest tm hp clk Q = WNext P E ops i rest dst tm hp clk Q (builtinA E.tt b ts.toList (.loc (dst.getD 0) i clk) (args.toList.map (Ab.get tm)) hp) := WDo_next _ _ _ _ _ _ _ _ _ _ (by intro f a t h; cases h)

/-- A call of a function. -/
def WCallK (P : Program) (E : Env) (ops : Array Oper) (i : Nat) (rest : List Oper) (dst : Option Tmp) (tm : Nat → AV) (hp : HP) (clk : Nat) (Q : St → Prop) (f : AV) (args : List AV) : Prop :=
  WCall P E (.loc (dst.getD 0) i clk) f args hp fun v ch => WOps P E ops (i + 1) rest ⟨put tm dst v, chg hp ch, clk⟩ Q
@[go_sem] theorem WDo_call (f : Operand) (args : Array Operand) (ts : Array TypeId) : WDo P E ops i ⟨dst, .call ⟨.value f, args, ts⟩, ty, pos, af, g⟩ rest tm hp clk Q =
    WCallK P E ops i rest dst tm hp clk Q (Ab.get tm f) (args.toList.map (Ab.get tm)) := rfl

theorem WCallK_use {P : Program} {E : Env} {ops : Array Oper} {i : Nat} {rest : List Oper} {dst : Option Tmp} {tm : Nat → AV} {hp : HP} {clk : Nat} {Q : St → Prop} {fid : FuncId} {args : List AV} {pr : Pr} {R : List RV → List (Option Ob) → Option Ob → Prop}
    (hpr : prep (E.byref fid) hp 0 args = some pr) (hd : distinct pr.names pr.ns = true) (hc : CallsA P fid pr.args pr.given R)
    (hk : ∀ rs objs' ex, R rs objs' ex → WOps P E ops (i + 1) rest ⟨put tm dst (resA (rs.map (rvA (.loc (dst.getD 0) i clk) pr.objs ex))), chg hp (sealCh hp pr.ns ++ backCh pr.objs objs' ++ exCh (.loc (dst.getD 0) i clk) ex), clk⟩ Q) :
    WCallK P E ops i rest dst tm hp clk Q (.fn fid) args := by
  unfold WCallK WCall
  simp only [hpr]
  refine ⟨hd, hc.1, fun w S ι vs h1 h2 h3 h4 h5 => ?_⟩
  refine (hc.2 w S ι vs h1 h2 h3 h4 h5).mono ?_
  rintro e w' ⟨rs, objs', ex, S', ι', v, q1, q2⟩
  exact ⟨rs, objs', ex, S', ι', v, hk rs objs' ex q1, q2⟩
end

end Go.Ab
