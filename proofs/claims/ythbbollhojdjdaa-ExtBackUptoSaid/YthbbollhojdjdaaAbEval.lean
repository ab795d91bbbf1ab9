/- THE ABSTRACT MACHINE, 2: what an operation makes of an abstract state; the weakest precondition W of a function's code; what a call is said to do (CallsA). Definitions alone; conditions: none. -/
import Derived.Test.YthbbollhojdjdaaAbBase
namespace Go.Ab

/-- A type, as far as it is needed. -/
inductive TD where
  | bool | int (k : IntKind) | str | ptr (e : TypeId) | slice (e : TypeId) | array (n : Nat) (e : TypeId) | struct (fs : List (Nat × TypeId)) | other

def TD.isAgg : TD → Bool
  | .array .. | .struct _ => true
  | _ => false

structure TI where
  size : Nat
  bytes : Nat
  zero : AV
  desc : TD

/-- What an evaluation is given: the types; how many slots; which functions are handed arrays as such (and which hand such back). -/
structure Env where
  tt : TypeId → Option TI
  n : Nat
  byref : FuncId → Bool

structure St where
  tm : Nat → AV
  hp : HP
  clk : Nat

def ofV : Value → AV
  | .bool b => .bool b
  | .int k n => .int k n
  | .string s => .str s.data.toList
  | .slice none 0 0 => .sl true 0 [] true
  | .pointer none => .nilp
  | .nilIface => .nilif
  | .nilFunc => .nilfn
  | .func (.func f) ⟨[]⟩ ⟨[]⟩ => .fn f
  | .tuple ⟨[]⟩ => .tup []
  | _ => .undef

def get (tm : Nat → AV) : Operand → AV
  | .tmp t => tm t
  | .const v => ofV v
  | .func f => .fn f
  | .global _ => .undef

def upd (tm : Nat → AV) (d : Nat) (v : AV) : Nat → AV := fun t => if t = d then v else tm t
def put (tm : Nat → AV) : Option Tmp → AV → Nat → AV
  | some d, v => upd tm d v
  | none, _ => tm

abbrev Ch := List (Nm × Option Ob)
def chg (hp : HP) : Ch → HP
  | [] => hp
  | (nm, o) :: l => chg (updH hp nm o) l

/-- Cells from a place on, put over others. -/
def over (cs : List AV) (off : Nat) (xs : List AV) : List AV := cs.take off ++ xs ++ cs.drop (off + xs.length)

def fillA (cs : List AV) : List (Nat × Nat × AV) → Option (List AV)
  | [] => some cs
  | (off, size, x) :: rest =>
    match cellsOf x with
    | some xs => if xs.length = size ∧ off + size ≤ cs.length then fillA (over cs off xs) rest else none
    | none => none

def takeA (ti : TI) (cs : List AV) : Option AV :=
  if ti.desc.isAgg = true then (if ti.size ≤ cs.length then some (.agg (cs.take ti.size)) else none)
  else match cs with
    | c :: _ => some c
    | [] => none

def loadA (tt : TypeId → Option TI) (t : TypeId) (p : AV) (hp : HP) : Option AV :=
  match tt t with
  | none => none
  | some ti =>
    match p with
    | .ref nm off => match hp nm with
      | some ob => takeA ti (ob.cs.drop off)
      | none => none
    | .pc cs => takeA ti cs
    | _ => none

def storeA (tt : TypeId → Option TI) (t : TypeId) (p x : AV) (hp : HP) : Option (AV × Ch) :=
  match tt t with
  | none => none
  | some ti =>
    match p with
    | .ref nm off => match hp nm with
      | some ob => match cellsOf x with
        | some xs => if ob.live = true ∧ xs.length = ti.size ∧ off + xs.length ≤ ob.cs.length ∧ xs.all one = true then some (.tup [], [(nm, some ⟨over ob.cs off xs, true⟩)]) else none
        | none => none
      | none => none
    | _ => none

def chunk (sz : Nat) : Nat → List AV → List (List AV)
  | 0, _ => []
  | n + 1, cs => cs.take sz :: chunk sz n (cs.drop sz)

/-- The cells that a slice shows. -/
def arrCells (ob : Ob) (off len sz : Nat) : Option (List AV) :=
  if off + len * sz ≤ ob.cs.length ∧ 0 < sz then some ((ob.cs.drop off).take (len * sz)) else none

/-- An array, written no more, as a slice. -/
def sealA (hp : HP) (nm : Nm) (off len sz : Nat) : Option AV :=
  match hp nm with
  | some ob => match arrCells ob off len sz with
    | some cs => if nf.nfs cs = true then some (.sl false sz (chunk sz len cs) false) else none
    | none => none
  | none => none

def sealV (hp : HP) (a : AV) : Option (AV × List Nm) :=
  if nf a = true then some (a, []) else
  match a with
  | .arr nm off len sz => match sealA hp nm off len sz with
    | some s => some (s, [nm])
    | none => none
  | .agg cs => match go cs with
    | some (l, ns) => some (.agg l, ns)
    | none => none
  | _ => none
where
  go : List AV → Option (List AV × List Nm)
    | [] => some ([], [])
    | a :: l =>
      match (if nf a = true then some (a, []) else match a with
        | .arr nm off len sz => match sealA hp nm off len sz with
          | some s => some (s, [nm])
          | none => none
        | _ => none) with
      | some (b, ns) => match go l with
        | some (l', ms) => some (b :: l', ns ++ ms)
        | none => none
      | none => none

def sealCh (hp : HP) : List Nm → Ch
  | [] => []
  | nm :: l => match hp nm with
    | some ob => (nm, some ⟨ob.cs, false⟩) :: sealCh hp l
    | none => sealCh hp l

def bytesA : List (List AV) → Option (List UInt8)
  | [] => some []
  | [.int .u8 n] :: l => match bytesA l with
    | some r => some (UInt8.ofNat n.toNat :: r)
    | none => none
  | _ => none

def bytesC : List AV → Option (List UInt8)
  | [] => some []
  | .int .u8 n :: l => match bytesC l with
    | some r => some (UInt8.ofNat n.toNat :: r)
    | none => none
  | _ => none

def ofByte (b : UInt8) : AV := .int .u8 b.toNat

def bitsA (op : BinOp) (k : IntKind) (x y : Int) : Int :=
  let a := BitVec.ofInt k.bits x
  let b := BitVec.ofInt k.bits y
  match op with
  | .and => k.wrap (a &&& b).toNat
  | .or => k.wrap (a ||| b).toNat
  | .xor => k.wrap (a ^^^ b).toNat
  | _ => k.wrap (a &&& ~~~b).toNat

def cmpA (op : BinOp) (x y : Int) : Option Bool :=
  match op with
  | .eql => some (x == y)
  | .neq => some (x != y)
  | .lss => some (decide (x < y))
  | .leq => some (decide (x ≤ y))
  | .gtr => some (decide (x > y))
  | .geq => some (decide (x ≥ y))
  | _ => none

def intA (op : BinOp) (k : IntKind) (x y : Int) : Option AV :=
  match op with
  | .add => some (.int k (k.wrap (x + y)))
  | .sub => some (.int k (k.wrap (x - y)))
  | .mul => some (.int k (k.wrap (x * y)))
  | .quo => if y = 0 then none else some (.int k (k.wrap (x.tdiv y)))
  | .rem => if y = 0 then none else some (.int k (x.tmod y))
  | .and => some (.int k (bitsA .and k x y))
  | .or => some (.int k (bitsA .or k x y))
  | .xor => some (.int k (bitsA .xor k x y))
  | .andNot => some (.int k (bitsA .andNot k x y))
  | .eql => some (.bool (x == y))
  | .neq => some (.bool (x != y))
  | .lss => some (.bool (decide (x < y)))
  | .leq => some (.bool (decide (x ≤ y)))
  | .gtr => some (.bool (decide (x > y)))
  | .geq => some (.bool (decide (x ≥ y)))
  | _ => none

def strA (op : BinOp) (x y : List UInt8) : Option AV :=
  match op with
  | .add => if (x.length + y.length : Nat) ≤ 9223372036854775807 then some (.str (x ++ y)) else none
  | .eql => some (.bool (x == y))
  | .neq => some (.bool !(x == y))
  | .lss => some (.bool (Op.bytesLess x y))
  | .leq => some (.bool (Op.bytesLess x y || x == y))
  | .gtr => some (.bool !(Op.bytesLess x y || x == y))
  | .geq => some (.bool !(Op.bytesLess x y))
  | _ => none

def shiftA (op : BinOp) (k : IntKind) (x y : Int) : Option AV :=
  if y < 0 then none else
  match op with
  | .shl => some (.int k (k.wrap (x * 2 ^ (min y.toNat k.bits))))
  | .shr => some (.int k (x.fdiv (2 ^ (min y.toNat k.bits))))
  | _ => none

def eqA (d : TD) (x y : AV) : Option Bool :=
  match d, x, y with
  | .bool, .bool a, .bool b => some (a == b)
  | .slice _, .sl n .., .sl m .. => if n = true ∨ m = true then some (n && m) else none
  | .slice _, .arr .., .sl m .. => if m = true then some false else none
  | .slice _, .sl n .., .arr .. => if n = true then some false else none
  | .ptr _, .nilp, .nilp => some true
  | .ptr _, .ref .., .nilp => some false
  | .ptr _, .nilp, .ref .. => some false
  | _, _, _ => none

def binA (tt : TypeId → Option TI) (op : BinOp) (t : TypeId) (x y : AV) : Option AV :=
  match x, y with
  | .int k a, .int k' b =>
    match op with
    | .shl => shiftA .shl k a b
    | .shr => shiftA .shr k a b
    | op => if k = k' then intA op k a b else none
  | .str a, .str b => strA op a b
  | x, y =>
    match tt t with
    | none => none
    | some ti =>
      match op with
      | .eql => (eqA ti.desc x y).map .bool
      | .neq => (eqA ti.desc x y).map fun b => .bool !b
      | _ => none

def unA (op : UnOp) (x : AV) : Option AV :=
  match op, x with
  | .neg, .int k n => some (.int k (k.wrap (0 - n)))
  | .xor, .int k n => some (.int k (bitsA .xor k (if k.signed then -1 else k.max) n))
  | .not, .bool b => some (.bool !b)
  | _, _ => none

def convA (tt : TypeId → Option TI) (src dst : TypeId) (x : AV) (hp : HP) : Option AV :=
  match tt src, tt dst with
  | some ts, some td =>
    match td.desc, x with
    | .int k, .int _ n => some (.int k (k.wrap n))
    | .str, .str l => some (.str l)
    | .slice e, .str l => match tt e with
      | some te => match te.desc with
        | .int .u8 => some (.sl false 1 (l.map fun b => [ofByte b]) false)
        | _ => none
      | none => none
    | .str, .sl n sz es _ =>
      match ts.desc with
      | .slice e => match tt e with
        | some te => match te.desc with
          | .int .u8 => if n = true then some (.str []) else if sz = 1 then (bytesA es).map .str else none
          | _ => none
        | none => none
      | _ => none
    | .str, .arr nm off len sz =>
      match ts.desc with
      | .slice e => match tt e with
        | some te => match te.desc with
          | .int .u8 => match hp nm with
            | some ob => match arrCells ob off len sz with
              | some cs => if sz = 1 then (bytesC cs).map .str else none
              | none => none
            | none => none
          | _ => none
        | none => none
      | _ => none
    | _, _ => none
  | _, _ => none

def boundA (d : Nat) : Option AV → Option Nat
  | none => some d
  | some (.int _ n) => if 0 ≤ n then some n.toNat else none
  | some _ => none

/-- A slice of a slice; with a third index, that is the end of what may be shown. -/
def sliceA (tt : TypeId → Option TI) (t : TypeId) (x : AV) (lo hi mx : Option AV) (hp : HP) : Option (AV × Ch) :=
  match tt t with
  | none => none
  | some ti =>
    match ti.desc, x with
    | .str, .str l =>
      match mx, boundA 0 lo, boundA l.length hi with
      | none, some a, some b => if a ≤ b ∧ b ≤ l.length then some (.str ((l.drop a).take (b - a)), []) else none
      | _, _, _ => none
    | .slice e, .sl n sz es full =>
      match tt e, boundA 0 lo, boundA es.length hi, mx with
      | some te, some a, some b, none => if a ≤ b ∧ b ≤ es.length ∧ (n = true ∨ sz = te.size) then some (.sl n sz ((es.drop a).take (b - a)) (full && decide (b = es.length)), []) else none
      | some te, some a, some b, some m => match hi, boundA 0 (some m) with
        | some _, some m => if a ≤ b ∧ b ≤ m ∧ m ≤ es.length ∧ (n = true ∨ sz = te.size) then some (.sl n sz ((es.drop a).take (b - a)) (decide (m = b)), []) else none
        | _, _ => none
      | _, _, _, _ => none
    | .slice e, .arr nm off len sz =>
      match tt e, boundA 0 lo, boundA len hi, mx, hp nm with
      | some te, some a, some b, none, some ob => if a ≤ b ∧ off + b * sz ≤ ob.cs.length ∧ sz = te.size ∧ 0 < sz then some (.arr nm (off + a * sz) (b - a) sz, []) else none
      | _, _, _, _, _ => none
    | .array n e, .ref nm off =>
      match tt e, boundA 0 lo, boundA n hi, mx with
      | some te, some a, some b, none =>
        if a ≤ b ∧ b ≤ n then (match sealA hp nm (off + a * te.size) (b - a) te.size with
          | some s => some (s, sealCh hp [nm])
          | none => none) else none
      | _, _, _, _ => none
    | _, _ => none

def fieldsA (fs : List (Nat × TypeId)) (i : Nat) : Option (Nat × TypeId) := fs[i]?

def fieldAddrA (tt : TypeId → Option TI) (t : TypeId) (x : AV) (i : Nat) : Option AV :=
  match tt t with
  | none => none
  | some ti =>
    match ti.desc with
    | .struct fs => match fs[i]? with
      | none => none
      | some (off, ft) => match tt ft with
        | none => none
        | some fi => if fi.size = 0 then none else
          match x with
          | .ref nm o => some (.ref nm (o + off))
          | .pc cs => some (.pc (cs.drop off))
          | _ => none
    | _ => none

def partA (ti : TI) (cs : List AV) (off : Nat) : Option AV := takeA ti (cs.drop off)

def fieldA (tt : TypeId → Option TI) (t : TypeId) (x : AV) (i : Nat) : Option AV :=
  match tt t with
  | none => none
  | some ti =>
    match ti.desc with
    | .struct fs => match fs[i]? with
      | none => none
      | some (off, ft) => match tt ft with
        | none => none
        | some fi =>
          match x with
          | .agg cs => partA fi cs off
          | _ => none
    | _ => none

def indexAddrA (tt : TypeId → Option TI) (t : TypeId) (x ix : AV) : Option AV :=
  match tt t with
  | none => none
  | some ti =>
    match ix with
    | .int _ m => if m < 0 then none else
      match ti.desc, x with
      | .slice e, .sl _ sz es _ => match tt e with
        | some te => if sz = te.size then (es[m.toNat]?).map .pc else none
        | none => none
      | .slice e, .arr nm off len sz => match tt e with
        | some te => if sz = te.size ∧ m < len then some (.ref nm (off + m.toNat * sz)) else none
        | none => none
      | .array n e, .ref nm off => match tt e with
        | some te => if m < n then some (.ref nm (off + m.toNat * te.size)) else none
        | none => none
      | .array n e, .pc cs => match tt e with
        | some te => if m < n then some (.pc (cs.drop (m.toNat * te.size))) else none
        | none => none
      | _, _ => none
    | _ => none

def indexA (tt : TypeId → Option TI) (t : TypeId) (x ix : AV) : Option AV :=
  match tt t with
  | none => none
  | some ti =>
    match ix with
    | .int _ m => if m < 0 then none else
      match ti.desc, x with
      | .str, .str l => (l[m.toNat]?).map ofByte
      | .array n e, .agg cs => match tt e with
        | some te => if m < n then partA te cs (m.toNat * te.size) else none
        | none => none
      | _, _ => none
    | _ => none

def lenA (tt : TypeId → Option TI) (t : TypeId) (x : AV) : Option AV :=
  match tt t with
  | none => none
  | some ti =>
    match ti.desc, x with
    | .str, .str l => some (.int .i64 l.length)
    | .slice _, .sl _ _ es _ => some (.int .i64 es.length)
    | .slice _, .arr _ _ len _ => some (.int .i64 len)
    | .array n _, _ => some (.int .i64 n)
    | _, _ => none

/-- What is put behind by append: how many, their cells. -/
def newsA (tt : TypeId → Option TI) (tx : TypeId) (size : Nat) (x : AV) (hp : HP) : Option (Nat × List AV) :=
  match tt tx with
  | none => none
  | some ti =>
    match ti.desc, x with
    | .slice _, .sl n sz es _ => if n = true ∨ sz = size then some (es.length, es.flatten) else none
    | .slice _, .arr nm off len sz => if sz = size then (match hp nm with
      | some ob => (arrCells ob off len sz).map fun cs => (len, cs)
      | none => none) else none
    | .str, .str l => if size = 1 then some (l.length, l.map ofByte) else none
    | _, _ => none

def appendA (tt : TypeId → Option TI) (t tx : TypeId) (fresh : Nm) (s x : AV) (hp : HP) : Option (AV × Ch) :=
  match tt t with
  | none => none
  | some ti =>
    match ti.desc with
    | .slice e => match tt e with
      | none => none
      | some te =>
        match newsA tt tx te.size x hp with
        | none => none
        | some (m, news) =>
          if te.size = 0 ∨ te.bytes = 0 ∨ news.all one = false then none else
          match s with
          | .sl n sz es full =>
            if m = 0 then some (.sl n sz es full, [])
            else if (n = true ∨ full = true ∧ sz = te.size ∧ es.flatten.all one = true) ∧ (es.length + m) * te.bytes ≤ 140737488355328 then
              some (.arr fresh 0 (es.length + m) te.size, [(fresh, some ⟨es.flatten ++ news, true⟩)])
            else none
          | .arr nm off len sz => match hp nm with
            | some ob => if ob.live = true ∧ off = 0 ∧ len * sz = ob.cs.length ∧ sz = te.size ∧ (len + m) * te.bytes ≤ 140737488355328 then
                some (.arr fresh 0 (len + m) sz, [(nm, none), (fresh, some ⟨ob.cs ++ news, true⟩)])
              else none
            | none => none
          | _ => none
    | _ => none

def copyA (tt : TypeId → Option TI) (t tx : TypeId) (s x : AV) (hp : HP) : Option (AV × Ch) :=
  match tt t with
  | none => none
  | some ti =>
    match ti.desc with
    | .slice e => match tt e with
      | none => none
      | some te =>
        match newsA tt tx te.size x hp, s with
        | some (m, news), .arr nm off len sz => match hp nm with
          | some ob => if ob.live = true ∧ off + len * sz ≤ ob.cs.length ∧ sz = te.size ∧ te.size = 1 ∧ news.all one = true then
              some (.int .i64 (min m len : Nat), [(nm, some ⟨over ob.cs off (news.take (min m len)), true⟩)])
            else none
          | none => none
        | _, _ => none
    | _ => none

def foldInt (f : Int → Int → Int) (k : IntKind) : Int → List AV → Option AV
  | x, [] => some (.int k x)
  | x, .int _ y :: l => foldInt f k (f x y) l
  | _, _ => none

def makeA (tt : TypeId → Option TI) (t : TypeId) (fresh : Nm) (len cap : AV) : Option (AV × Ch) :=
  match tt t with
  | none => none
  | some ti =>
    match ti.desc with
    | .slice e => match tt e with
      | none => none
      | some te =>
        match len, cap, cellsOf te.zero with
        | .int _ l, .int _ c, some zs =>
          if 0 ≤ l ∧ l ≤ c ∧ c * te.bytes ≤ 140737488355328 ∧ 0 < te.bytes ∧ 0 < te.size ∧ zs.length = te.size then
            some (.arr fresh 0 l.toNat te.size, [(fresh, some ⟨(List.replicate l.toNat zs).flatten, true⟩)])
          else none
        | _, _, _ => none
    | _ => none

def buildA (tt : TypeId → Option TI) (t : TypeId) (parts : List (Nat × AV)) : Option AV :=
  match tt t with
  | none => none
  | some ti =>
    match cellsOf ti.zero with
    | none => none
    | some zs =>
      match ti.desc with
      | .struct fs =>
        match placesA fs parts with
        | some ps => (fillA zs ps).map .agg
        | none => none
      | .array _ e => match tt e with
        | none => none
        | some te => (fillA zs (parts.map fun (i, x) => (i * te.size, te.size, x))).map .agg
      | _ => none
where
  placesA (fs : List (Nat × TypeId)) : List (Nat × AV) → Option (List (Nat × Nat × AV))
    | [] => some []
    | (i, x) :: l => match fs[i]? with
      | none => none
      | some (off, ft) => match tt ft with
        | none => none
        | some fi => match placesA fs l with
          | some r => some ((off, fi.size, x) :: r)
          | none => none

/-- What parts of a slice are, with the names of the arrays in them. -/
def partsA (hp : HP) : List (Nat × AV) → Option (List (Nat × AV) × List Nm)
  | [] => some ([], [])
  | (i, x) :: l => match sealV hp x with
    | none => none
    | some (a, ns) => match partsA hp l with
      | some (r, ms) => some ((i, a) :: r, ns ++ ms)
      | none => none

def buildSliceA (tt : TypeId → Option TI) (t : TypeId) (len : Nat) (parts : List (Nat × AV)) (hp : HP) : Option (AV × Ch) :=
  match tt t with
  | none => none
  | some ti =>
    match ti.desc with
    | .slice e => match tt e with
      | none => none
      | some te =>
        match cellsOf te.zero, partsA hp parts with
        | some zs, some (ps, ns) =>
          match fillA (List.replicate len zs).flatten (ps.map fun (i, x) => (i * te.size, te.size, x)) with
          | some cs => if zs.length = te.size ∧ len * te.size ≤ 16777216 ∧ nf.nfs cs = true ∧ 0 < te.size then
              some (.sl false te.size (chunk te.size len cs) true, sealCh hp ns)
            else none
          | none => none
        | _, _ => none
    | _ => none

def allocA (tt : TypeId → Option TI) (t : TypeId) (fresh : Nm) : Option (AV × Ch) :=
  match tt t with
  | none => none
  | some ti => match cellsOf ti.zero with
    | some zs => some (.ref fresh 0, [(fresh, some ⟨zs, true⟩)])
    | none => none

def boxA (fresh : Nm) (x : AV) : Option (AV × Ch) :=
  match cellsOf x with
  | some xs => some (.ref fresh 0, [(fresh, some ⟨xs, true⟩)])
  | none => none

def builtinA (tt : TypeId → Option TI) (b : Builtin) (ts : List TypeId) (fresh : Nm) (xs : List AV) (hp : HP) : Option (AV × Ch) :=
  match b, ts, xs with
  | .len, [t], [x] => (lenA tt t x).map (·, [])
  | .append, [t, tx], [s, x] => appendA tt t tx fresh s x hp
  | .copy, [t, tx], [s, x] => copyA tt t tx s x hp
  | .max, _, .int k x :: l => (foldInt (fun x y => if y > x then y else x) k x l).map (·, [])
  | .min, _, .int k x :: l => (foldInt (fun x y => if y < x then y else x) k x l).map (·, [])
  | _, _, _ => none

/-- An operation, but for calls of functions. -/
def evalOp (tt : TypeId → Option TI) (op : Op) (fresh : Nm) (g : Operand → AV) (hp : HP) : Option (AV × Ch) :=
  match op with
  | .move x | .assign x => some (g x, [])
  | .pick c a b => match g c with
    | .bool t => match g a, g b with
      | .bool x, .bool y => some (.bool (bif t then x else y), [])
      | x, y => some (if t = true then x else y, [])
    | _ => none
  | .alloc t => allocA tt t fresh
  | .box _ x => boxA fresh (g x)
  | .build t parts => (buildA tt t (parts.toList.map fun (i, x) => (i, g x))).map (·, [])
  | .buildSlice t len parts => buildSliceA tt t len (parts.toList.map fun (i, x) => (i, g x)) hp
  | .load t p => (loadA tt t (g p) hp).map (·, [])
  | .store t p x => storeA tt t (g p) (g x) hp
  | .nilCheck x => match g x with
    | .ref nm off => some (.ref nm off, [])
    | .pc cs => some (.pc cs, [])
    | _ => none
  | .binOp op t x y _ => (binA tt op t (g x) (g y)).map (·, [])
  | .unOp op _ x => (unA op (g x)).map (·, [])
  | .convert src dst x => (convA tt src dst (g x) hp).map (·, [])
  | .makeSlice t l c => makeA tt t fresh (g l) (g c)
  | .slice t x lo hi mx => sliceA tt t (g x) (lo.map g) (hi.map g) (mx.map g) hp
  | .fieldAddr t x f => (fieldAddrA tt t (g x) f).map (·, [])
  | .field t x f => (fieldA tt t (g x) f).map (·, [])
  | .indexAddr t x ix => (indexAddrA tt t (g x) (g ix)).map (·, [])
  | .index t x ix => (indexA tt t (g x) (g ix)).map (·, [])
  | .extract t ix => match g t with
    | .tup vs => (vs[ix]?).map (·, [])
    | _ => none
  | .call { callee := .builtin b, args, argTypes } => builtinA tt b argTypes.toList fresh (args.toList.map g) hp
  | _ => none

/-- A result of a call: a value; a part of what was handed in; what was made in it and is handed over. -/
inductive RV where
  | v (a : AV)
  | ref (k off : Nat)
  | arr (k off len sz : Nat)
  | ex (off len sz : Nat)

/-- A call's arguments made ready. -/
structure Pr where
  args : List AV
  objs : List (Option (Nm × Ob))
  ns : List Nm

def prep1 (byref : Bool) (hp : HP) (j : Nat) (a : AV) : Option (AV × Option (Nm × Ob) × List Nm) :=
  if nf a = true then some (a, none, []) else
  match a with
  | .ref nm off => match hp nm with
    | some ob => if ob.live = true ∧ nf.nfs ob.cs = true then some (.ref (.arg j) off, some (nm, ob), []) else none
    | none => none
  | .arr nm off len sz =>
    if byref = true then (match hp nm with
      | some ob => if ob.live = true ∧ nf.nfs ob.cs = true then some (.arr (.arg j) off len sz, some (nm, ob), []) else none
      | none => none)
    else (match sealA hp nm off len sz with
      | some s => some (s, none, [nm])
      | none => none)
  | a => match sealV hp a with
    | some (s, ns) => some (s, none, ns)
    | none => none

def prep (byref : Bool) (hp : HP) : Nat → List AV → Option Pr
  | _, [] => some ⟨[], [], []⟩
  | j, a :: l => match prep1 byref hp j a with
    | none => none
    | some (b, o, ns) => match prep byref hp (j + 1) l with
      | some pr => some ⟨b :: pr.args, o :: pr.objs, ns ++ pr.ns⟩
      | none => none

def Pr.names (pr : Pr) : List Nm := pr.objs.filterMap fun o => o.map (·.1)
def Pr.given (pr : Pr) : List (Option Ob) := pr.objs.map fun o => o.map (·.2)

def distinct : List Nm → List Nm → Bool
  | [], _ => true
  | a :: l, ns => !(l.any fun b => decide (a = b)) && !(ns.any fun b => decide (a = b)) && distinct l ns

def rvA (fresh : Nm) (objs : List (Option (Nm × Ob))) (ex : Option Ob) : RV → AV
  | .v a => a
  | .ref k off => match (objs[k]?).join with
    | some (nm, _) => .ref nm off
    | none => .undef
  | .arr k off len sz => match (objs[k]?).join with
    | some (nm, _) => .arr nm off len sz
    | none => .undef
  | .ex off len sz => match ex with
    | some _ => .arr fresh off len sz
    | none => .undef

def resA : List AV → AV
  | [a] => a
  | l => .tup l

def backCh : List (Option (Nm × Ob)) → List (Option Ob) → Ch
  | some (nm, _) :: l, o :: r => (nm, o) :: backCh l r
  | none :: l, _ :: r => backCh l r
  | _, _ => []

def exCh (fresh : Nm) : Option Ob → Ch
  | some ob => [(fresh, some ob)]
  | none => []

def HPof (objs : List (Option Ob)) : HP
  | .arg k => (objs[k]?).join
  | _ => none

def HPx (objs : List (Option Ob)) (ex : Option Ob) : HP
  | .arg k => (objs[k]?).join
  | .loc 0 0 0 => ex
  | _ => none

/-- What a result says. -/
inductive RVT (S : SM) (ι : NM) : RV → Value → Prop
  | v {a : AV} {x : Value} : V S a x → RVT S ι (.v a) x
  | ref {k off : Nat} {x : Value} : VT S ι (.ref (.arg k) off) x → RVT S ι (.ref k off) x
  | arr {k off len sz : Nat} {x : Value} : VT S ι (.arr (.arg k) off len sz) x → RVT S ι (.arr k off len sz) x
  | ex {off len sz : Nat} {x : Value} : VT S ι (.arr (.loc 0 0 0) off len sz) x → RVT S ι (.ex off len sz) x

def oneOr : List Value → Value
  | [x] => x
  | l => .tuple l.toArray

/-- What the results together say. -/
def RVs (S : SM) (ι : NM) (rs : List RV) (v : Value) : Prop :=
  ∃ vs : List Value, vs.length = rs.length ∧ (∀ i (hi : i < rs.length) (hj : i < vs.length), RVT S ι rs[i] vs[i]) ∧ v = oneOr vs

/-- The blocks of what is handed in. -/
def given (ι : NM) (objs : List (Option Ob)) (b : Nat) : Prop := ∃ k ob l, (objs[k]?).join = some ob ∧ ι (.arg k) = some l ∧ l.blk = b

/-- WHAT A CALL DOES: of arguments and objects so, results and objects as Q says; nothing else that was there has turned. -/
def CallsA (P : Program) (f : FuncId) (args : List AV) (objs : List (Option Ob)) (Q : List RV → List (Option Ob) → Option Ob → Prop) : Prop :=
  (∃ fn, P.funcs[f]? = some fn ∧ (fn.name == "runtime.NumGoroutine") = false ∧ fn.body.isSome = true) ∧
  ∀ (w : World) (S : SM) (ι : NM) (vs : List Value), vs.length = args.length → (∀ j (h1 : j < args.length) (h2 : j < vs.length), VT S ι args[j] vs[j]) →
    (∀ (k : Nat) (ob : Ob), (objs[k]?).join = some ob → ob.live = true ∧ nf.nfs ob.cs = true) →
    HR S ι (HPof objs) w → (∀ d i c, ι (.loc d i c) = none) →
    Calls P f vs.toArray w fun e w' => ∃ (rs : List RV) (objs' : List (Option Ob)) (ex : Option Ob) (S' : SM) (ι' : NM) (v : Value), Q rs objs' ex ∧ e = .returned v ∧ RVs S' ι' rs v ∧
      SLe S S' ∧ (∀ b o, S' b = some o → S b = some o ∨ w.heap.size ≤ b ∨ given ι objs b) ∧ ILe ι ι' ∧
      HR S' ι' (HPx objs' ex) w' ∧ Fr w (given ι objs) w' ∧
      (∀ (k : Nat) (ob : Ob), (objs'[k]?).join = some ob → k < objs.length ∧ (objs[k]?).join.isSome = true ∧ nf.nfs ob.cs = true) ∧
      (∀ ob : Ob, ex = some ob → nf.nfs ob.cs = true ∧ ob.live = true ∧ ∃ l, ι' (.loc 0 0 0) = some l ∧ (w.heap.size ≤ l.blk ∨ given ι objs l.blk)) ∧ objs'.length = objs.length

def wantA (ops : Array Oper) (o : Oper) (tm : Nat → AV) : Option Bool :=
  match o.guard with
  | none => some true
  | some (j, want) =>
    match (ops[j]?).bind (·.dst) with
    | none => none
    | some t => match tm t with
      | .bool b => some (b == want)
      | .tup _ => some false
      | _ => none

def dstOk (n : Nat) : Option Tmp → Bool
  | some d => Nat.blt d n
  | none => true

def freshOf (o : Oper) (i c : Nat) : Nm := .loc (o.dst.getD 0) i c

/-- What a call of a function needs for Q. -/
def WCall (P : Program) (E : Env) (fr : Nm) (f : AV) (args : List AV) (hp : HP) (Q : AV → Ch → Prop) : Prop :=
  match f with
  | .fn fid =>
    match prep (E.byref fid) hp 0 args with
    | some pr => distinct pr.names pr.ns = true ∧ CallsA P fid pr.args pr.given fun rs objs' ex =>
        Q (resA (rs.map (rvA fr pr.objs ex))) (sealCh hp pr.ns ++ backCh pr.objs objs' ++ exCh fr ex)
    | none => False
  | _ => False

/-- What a call of a function needs, in a statement whose order is open: it does one thing. -/
def WCallD (P : Program) (E : Env) (fr : Nm) (f : AV) (args : List AV) (hp : HP) (Q : AV → Ch → Prop) : Prop :=
  match f with
  | .fn fid =>
    match prep (E.byref fid) hp 0 args with
    | some pr => distinct pr.names pr.ns = true ∧ ∃ rs objs' ex, CallsA P fid pr.args pr.given (fun a b c => a = rs ∧ b = objs' ∧ c = ex) ∧
        Q (resA (rs.map (rvA fr pr.objs ex))) (sealCh hp pr.ns ++ backCh pr.objs objs' ++ exCh fr ex)
    | none => False
  | _ => False

/-- What one operation needs for Q to hold behind it. -/
def WOp (P : Program) (E : Env) (i : Nat) (o : Oper) (st : St) (Q : AV → Ch → Prop) : Prop :=
  match o.op with
  | .call { callee := .value f, args, .. } => WCall P E (freshOf o i st.clk) (get st.tm f) (args.toList.map (get st.tm)) st.hp Q
  | op =>
    match evalOp E.tt op (freshOf o i st.clk) (get st.tm) st.hp with
    | some (v, ch) => Q v ch
    | none => False

def WOpD (P : Program) (E : Env) (i : Nat) (o : Oper) (st : St) (Q : AV → Ch → Prop) : Prop :=
  match o.op with
  | .call { callee := .value f, args, .. } => WCallD P E (freshOf o i st.clk) (get st.tm f) (args.toList.map (get st.tm)) st.hp Q
  | op =>
    match evalOp E.tt op (freshOf o i st.clk) (get st.tm) st.hp with
    | some (v, ch) => Q v ch
    | none => False

/-- The state behind an operation. -/
def St.app (st : St) (o : Oper) (v : AV) (ch : Ch) : St := ⟨put st.tm o.dst v, chg st.hp ch, st.clk⟩

def WOps (P : Program) (E : Env) (ops : Array Oper) : Nat → List Oper → St → (St → Prop) → Prop
  | _, [], st, Q => Q st
  | i, o :: rest, st, Q =>
    match wantA ops o st.tm with
    | some true => WOp P E i o st fun v ch => WOps P E ops (i + 1) rest (st.app o v ch) Q
    | some false => WOps P E ops (i + 1) rest (st.app o (.tup []) []) Q
    | none => False

/-- The names in a value (in its cells too). -/
def namesA (a : AV) : List Nm :=
  if nf a = true then [] else
  match a with
  | .ref nm _ => [nm]
  | .arr nm .. => [nm]
  | .agg cs => go cs
  | _ => []
where
  go : List AV → List Nm
    | [] => []
    | a :: l => (if nf a = true then [] else match a with
      | .ref nm _ => [nm]
      | .arr nm .. => [nm]
      | _ => []) ++ go l

/-- What an operation looks at, what it writes. -/
structure Rec where
  i : Nat
  see : List Nm
  wr : List Nm

def seen (op : Op) (tm : Nat → AV) : List Nm := op.operands.toList.flatMap fun x => namesA (get tm x)

def WOpsD (P : Program) (E : Env) (ops : Array Oper) : Nat → List Oper → St → List Rec → (St → List Rec → Prop) → Prop
  | _, [], st, acc, Q => Q st acc
  | i, o :: rest, st, acc, Q =>
    match wantA ops o st.tm with
    | some true => WOpD P E i o st fun v ch => WOpsD P E ops (i + 1) rest (st.app o v ch) (⟨i, seen o.op st.tm, ch.map (·.1)⟩ :: acc) Q
    | some false => WOpsD P E ops (i + 1) rest (st.app o (.tup []) []) acc Q
    | none => False

/-- Do two lists of names share one? -/
def meets (a b : List Nm) : Bool := a.any fun x => b.any fun y => decide (x = y)

/-- What is ordered ahead of what: bits. -/
def ahead (ops : Array Oper) : Array Nat := Region.before ops

def ordered (bs : Array Nat) (i j : Nat) : Bool := (bs.getD j 0).testBit i || (bs.getD i 0).testBit j

/-- No two operations that are not ordered touch one object that one of them writes. -/
def confFree (bs : Array Nat) (acc : List Rec) : Bool :=
  acc.all fun r => r.wr.isEmpty || acc.all fun s => decide (r.i = s.i) || (!meets r.wr s.see && !meets r.wr s.wr) || ordered bs r.i s.i

/-- Of a statement whose order is open: each slot is written once; who reads it is ordered with who writes it; edges go back. -/
def drawOK (ops : Array Oper) : Bool :=
  let bs := ahead ops
  let l := ops.toList.zipIdx
  l.all fun (o, i) =>
    (o.after.all fun e => !Region.binds .any e || Nat.blt e.on i) &&
    l.all fun (p, j) => Nat.beq i j || match p.dst with
      | none => true
      | some d => (match o.dst with | some d' => !Nat.beq d d' | none => true) &&
        ((o.op.operands.toList.all fun x => match x with | .tmp t => !Nat.beq t d | _ => true) && (match o.guard with | some (g, _) => !Nat.beq g j | none => true) || ordered bs i j)

/-- A code's slots are there, its open statements are such. -/
def codeOK (n : Nat) : Code → Bool
  | .region _ ops draw => ops.toList.all (fun o => dstOk n o.dst) && (!draw || drawOK ops)
  | .seq a b => codeOK n a && codeOK n b
  | .cond _ a b => codeOK n a && codeOK n b
  | .block _ c => codeOK n c
  | .loop c => codeOK n c
  | .scope c => codeOK n c
  | .skip | .label _ | .exit _ | .ret => true
  | _ => false

def St.tick (st : St) : St := ⟨st.tm, st.hp, st.clk + 1⟩

/-- THE WEAKEST PRECONDITION. -/
def W (P : Program) (E : Env) : Code → St → (Exit → St → Prop) → Prop
  | .skip, st, Q => Q .normal st
  | .label _, st, Q => Q .normal st
  | .region _ ops draw, st, Q =>
    match draw with
    | false => WOps P E ops 0 ops.toList st fun st' => Q .normal st'.tick
    | true => WOpsD P E ops 0 ops.toList st [] fun st' acc => confFree (ahead ops) acc = true ∧ Q .normal st'.tick
  | .seq a b, st, Q => W P E a st fun e st' => match e with
    | .normal => W P E b st' Q
    | e => Q e st'
  | .cond c a b, st, Q =>
    match get st.tm c with
    | .bool t => (t = true → W P E a st Q) ∧ (t = false → W P E b st Q)
    | _ => False
  | .block id c, st, Q => W P E c st fun e st' => match e with
    | .exit id' => if id' = id then Q .normal st' else Q (.exit id') st'
    | e => Q e st'
  | .loop c, st, Q => ∃ (I : St → Prop) (μ : St → Nat), I st ∧ ∀ st, I st → W P E c st fun e st' => match e with
    | .normal => I st' ∧ μ st' < μ st
    | e => Q e st'
  | .scope c, st, Q => W P E c st fun e st' => match e with
    | .goto _ => False
    | e => Q e st'
  | .exit id, st, Q => Q (.exit id) st
  | .ret, st, Q => Q .ret st
  | _, _, _ => False

end Go.Ab
