/-
  An evaluator of the program's code on plain values: no proof in this text, only definitions.
  Values carry the content of memory that nobody writes any more; memory that the running function made itself is a list of rows.
-/
import Derived.Orders
import Derived.Below
import Derived.LoopN
namespace Go.EV

/-- A value. 'undef': nothing is known. 'sl es': a slice whose elements read as es and are written no more; 'ip es i o': the address of cell o of element i of such a slice. 'ms b g off len': a slice of the own row b, taken when the row had g elements; 'mp b g i o': the address of cell o of its element i. 'z0': a slice of length 0 and capacity 0. 'it b': an iterator of the own memory. -/
inductive AV where
  | undef
  | int (k : IntKind) (n : Int)
  | bool (b : Bool)
  | str (s : List UInt8)
  | agg (cs : List AV)
  | tup (vs : List AV)
  | sl (es : List AV)
  | ip (es : List AV) (i o : Nat)
  | ms (b g off len : Nat)
  | mp (b g i o : Nat)
  | it (b : Nat)
  | nils | z0 | nilp | nilf | nili
  | fn (f : FuncId) (caps : List AV)
  | iface (t : TypeId) (v : AV)
  deriving Inhabited

def AV.cells : AV → List AV
  | .agg cs => cs
  | v => [v]
/-- It may stand in one cell, and something is known of it. -/
def AV.one : AV → Bool
  | .undef | .agg _ | .tup _ => false
  | _ => true
def AV.fits (n : Nat) (v : AV) : Bool := v.cells.length == n && v.cells.all AV.one
def AV.isUndef : AV → Bool
  | .undef => true
  | _ => false

/-- It leads to no own memory. -/
def AV.isPure : AV → Bool
  | .ms .. | .mp .. | .it _ => false
  | .agg cs => allPure cs
  | .tup vs => allPure vs
  | .fn _ caps => allPure caps
  | .iface _ v => v.isPure
  | _ => true
where
  allPure : List AV → Bool
    | [] => true
    | v :: vs => v.isPure && allPure vs
/-- It leads to no memory at all. -/
def AV.scalar : AV → Bool
  | .int .. | .bool _ | .str _ | .nils | .nilp | .nilf | .nili | .undef => true
  | .agg cs => allScalar cs
  | .tup vs => allScalar vs
  | .iface _ v => v.scalar
  | _ => false
where
  allScalar : List AV → Bool
    | [] => true
    | v :: vs => v.scalar && allScalar vs
/-- It leads to rows below n alone. -/
def AV.under (n : Nat) : AV → Bool
  | .ms b .. | .mp b .. | .it b => decide (b < n)
  | .agg cs => allBelow n cs
  | .tup vs => allBelow n vs
  | .fn _ caps => allBelow n caps
  | .iface _ v => v.under n
  | _ => true
where
  allBelow (n : Nat) : List AV → Bool
    | [] => true
    | v :: vs => v.under n && allBelow n vs

/-- Own memory: a row of elements of sz cells each, 'wg': the length that it had when it was written last, 'com': so many elements are written no more; or an iterator over a string. -/
inductive HB where
  | row (es : List AV) (sz wg com : Nat)
  | sit (s : List UInt8) (pos : Nat)
  deriving Inhabited
/-- Slices without elements read alike. -/
def AV.norm : AV → AV
  | .nils | .z0 => .sl []
  | .agg cs => .agg (normL cs)
  | .tup vs => .tup (normL vs)
  | .sl es => .sl (normL es)
  | .ip es i o => .ip (normL es) i o
  | .fn f caps => .fn f (normL caps)
  | .iface t v => .iface t v.norm
  | v => v
where
  normL : List AV → List AV
    | [] => []
    | v :: vs => v.norm :: normL vs
def HB.under (n : Nat) : HB → Bool
  | .row es .. => es.all (AV.under n)
  | .sit .. => true
abbrev Heap := List HB

structure TI where
  desc : TypeDesc
  agg : Bool
  size : Nat
  bytes : Nat
  zero : AV

structure LAnn where
  live : List Nat
  own : List (Nat × Nat)

structure Env where
  ti : TypeId → Option TI
  fn : FuncId → Option Func
  gl : Nat → Option AV
  mode : FuncId → Nat
  lib : FuncId → List AV → Option AV
  ann : FuncId → Nat → Option LAnn

structure St where
  tm : List AV
  hp : Heap

inductive X where
  | normal | exit (id : Nat) | ret
  deriving DecidableEq

def constAV : Value → AV
  | .int k n => .int k n
  | .bool b => .bool b
  | .string s => .str s.data.toList
  | .nilIface => .nili
  | .nilFunc => .nilf
  | .pointer none => .nilp
  | .slice none 0 0 => .nils
  | .agg cs => .agg (cellsAV cs.toList)
  | _ => .undef
where
  cellsAV : List Value → List AV
    | [] => []
    | .int k n :: r => .int k n :: cellsAV r
    | .bool b :: r => .bool b :: cellsAV r
    | .string s :: r => .str s.data.toList :: cellsAV r
    | .nilIface :: r => .nili :: cellsAV r
    | .nilFunc :: r => .nilf :: cellsAV r
    | .pointer none :: r => .nilp :: cellsAV r
    | .slice none 0 0 :: r => .nils :: cellsAV r
    | _ :: r => .undef :: cellsAV r

def opnd (E : Env) (tm : List AV) : Operand → AV
  | .tmp t => tm.getD t .undef
  | .const v => constAV v
  | .global g => match E.gl g with
    | some v => .ip [v] 0 0
    | none => .undef
  | .func f => .fn f []

def isConst : Operand → Bool
  | .const _ => true
  | _ => false

/-- Cells o.. of an element, as a value of a type. -/
def readCells (ti : TI) (cs : List AV) (o : Nat) : Option AV :=
  if ti.agg then
    if o + ti.size ≤ cs.length then some (.agg ((cs.drop o).take ti.size)) else none
  else cs[o]?
def writeCells (e : AV) (o : Nat) (vs : List AV) : AV :=
  match e with
  | .agg cs => .agg (cs.take o ++ vs ++ cs.drop (o + vs.length))
  | _ => vs.headD .undef

def loadAV (E : Env) (hp : Heap) (t : TypeId) (a : AV) : Option AV :=
  match E.ti t, a with
  | some ti, .ip es i o => match es[i]? with
    | some e => readCells ti e.cells o
    | none => none
  | some ti, .mp b g i o => match hp[b]? with
    | some (.row es _ wg _) => if wg ≤ g then match es[i]? with
        | some e => readCells ti e.cells o
        | none => none
      else none
    | _ => none
  | _, _ => none

def storeAV (E : Env) (hp : Heap) (t : TypeId) (a v : AV) : Option Heap :=
  match E.ti t, a with
  | some ti, .mp b g i o => match hp[b]? with
    | some (.row es sz _ com) =>
      if g = es.length ∧ com ≤ i ∧ v.fits ti.size = true ∧ 0 < ti.size then match es[i]? with
        | some e => if o + ti.size ≤ e.cells.length then some (hp.set b (.row (es.set i (writeCells e o v.cells)) sz g com)) else none
        | none => none
      else none
    | _ => none
  | _, _ => none

def intBin (op : BinOp) (k : IntKind) (a b : Int) : Option AV :=
  match op with
  | .add => some (.int k (k.wrap (a + b)))
  | .sub => some (.int k (k.wrap (a - b)))
  | .mul => some (.int k (k.wrap (a * b)))
  | .quo => if b = 0 then none else some (.int k (k.wrap (a.tdiv b)))
  | .rem => if b = 0 then none else some (.int k (a.tmod b))
  | .and => some (.int k (k.wrap (BitVec.ofInt k.bits a &&& BitVec.ofInt k.bits b).toNat))
  | .or => some (.int k (k.wrap (BitVec.ofInt k.bits a ||| BitVec.ofInt k.bits b).toNat))
  | .xor => some (.int k (k.wrap (BitVec.ofInt k.bits a ^^^ BitVec.ofInt k.bits b).toNat))
  | .andNot => some (.int k (k.wrap (BitVec.ofInt k.bits a &&& ~~~(BitVec.ofInt k.bits b)).toNat))
  | .eql => some (.bool (a == b))
  | .neq => some (.bool (a != b))
  | .lss => some (.bool (decide (a < b)))
  | .leq => some (.bool (decide (a ≤ b)))
  | .gtr => some (.bool (decide (a > b)))
  | .geq => some (.bool (decide (a ≥ b)))
  | _ => none
def shiftBin (op : BinOp) (k : IntKind) (a b : Int) : Option AV :=
  if b < 0 then none else
  match op with
  | .shl => some (.int k (k.wrap (a * 2 ^ (min b.toNat k.bits))))
  | .shr => some (.int k (a.fdiv (2 ^ (min b.toNat k.bits))))
  | _ => none
def strBin (op : BinOp) (a b : List UInt8) : Option AV :=
  match op with
  | .add => if a.length + b.length ≤ 9223372036854775807 then some (.str (a ++ b)) else none
  | .eql => some (.bool (a == b))
  | .neq => some (.bool (!(a == b)))
  | .lss => some (.bool (Op.bytesLess a b))
  | .leq => some (.bool (Op.bytesLess a b || a == b))
  | .gtr => some (.bool (!(Op.bytesLess a b || a == b)))
  | .geq => some (.bool (!(Op.bytesLess a b)))
  | _ => none
def eqD (d : TypeDesc) (c : Bool) (x y : AV) : Option Bool :=
  match d, x, y with
  | .bool, .bool a, .bool b => some (a == b)
  | .interface _, .nili, .nili => if c then some true else none
  | .interface _, .iface _ _, .nili => some false
  | .interface _, .nili, .iface _ _ => some false
  | .pointer _, .nilp, .nilp => some true
  | .pointer _, .ip .., .nilp => some false
  | .pointer _, .nilp, .ip .. => some false
  | .pointer _, .mp .., .nilp => some false
  | .pointer _, .nilp, .mp .. => some false
  | .slice _, .nils, .nils => some true
  | .slice _, .sl (_ :: _), .nils => some false
  | _, _, _ => none
def eqAV (E : Env) (t : TypeId) (c : Bool) (x y : AV) : Option Bool :=
  match E.ti t with
  | some ti => eqD ti.desc c x y
  | none => none
def binInt (op : BinOp) (k : IntKind) (a : Int) (k' : IntKind) (b : Int) : Option AV :=
  if op = .shl ∨ op = .shr then shiftBin op k a b else if k = k' then intBin op k a b else none
def binEq (E : Env) (op : BinOp) (t : TypeId) (c : Bool) (x y : AV) : Option AV :=
  if op = .eql then (eqAV E t c x y).map .bool else if op = .neq then (eqAV E t c x y).map fun b => .bool (!b) else none
def binAV (E : Env) (op : BinOp) (t : TypeId) (c : Bool) (x y : AV) : Option AV :=
  match x, y with
  | .int k a, .int k' b => binInt op k a k' b
  | .str a, .str b => strBin op a b
  | x, y => binEq E op t c x y
def unAV (op : UnOp) (x : AV) : Option AV :=
  match op, x with
  | .neg, .int k n => some (.int k (k.wrap (0 - n)))
  | .xor, .int k n => intBin .xor k (if k.signed then -1 else k.max) n
  | .not, .bool b => some (.bool (!b))
  | _, _ => none
/-- '[]byte(s)': its bytes. -/
def convBytes (E : Env) (src dst : TypeId) (x : AV) : Option (List UInt8) :=
  match E.ti src, E.ti dst, x with
  | some ⟨.string, _, _, _, _⟩, some ⟨.slice e, _, _, _, _⟩, .str s => match E.ti e with
    | some ⟨.int .u8, _, _, _, _⟩ => some s
    | _ => none
  | _, _, _ => none
def byteAV (b : UInt8) : AV := .int .u8 b.toNat
def convPlain (E : Env) (src dst : TypeId) (x : AV) : Option AV :=
  match E.ti src, E.ti dst, x with
  | some _, some ⟨.int k, _, _, _, _⟩, .int _ n => some (.int k (k.wrap n))
  | some _, some ⟨.string, _, _, _, _⟩, .str s => some (.str s)
  | _, _, _ => none
def convAV (E : Env) (src dst : TypeId) (x : AV) : Option AV :=
  match convBytes E src dst x with
  | some s => some (.sl (s.map byteAV))
  | none => convPlain E src dst x

def natOf : AV → Option Nat
  | .int _ n => if 0 ≤ n then some n.toNat else none
  | _ => none
/-- A bound that may be left out. -/
def bound (d : Nat) : Option AV → Option Nat
  | none => some d
  | some v => natOf v
def sized (n : Nat) (es : List AV) : Bool := es.all fun e => e.cells.length == n
def sliceStr (s : List UInt8) (lo hi mx : Option AV) : Option AV :=
  match bound 0 lo, bound s.length hi, mx with
  | some l, some h, none => if l ≤ h ∧ h ≤ s.length then some (.str ((s.drop l).take (h - l))) else none
  | _, _, _ => none
def sliceSl (size : Nat) (es : List AV) (lo hi mx : Option AV) : Option AV :=
  if sized size es then
    match bound 0 lo, bound es.length hi, mx with
    | some l, some h, none => if l ≤ h ∧ h ≤ es.length then some (.sl ((es.drop l).take (h - l))) else none
    | some l, some h, some m => match natOf m with
      | some m => if hi.isSome = true ∧ l ≤ h ∧ h ≤ m ∧ m ≤ es.length then (if l = m then some .z0 else some (.sl ((es.drop l).take (h - l)))) else none
      | none => none
    | _, _, _ => none
  else none
def sliceMs (hp : Heap) (size b g off len : Nat) (lo hi mx : Option AV) : Option AV :=
  match hp[b]? with
  | some (.row _ sz _ _) =>
    if sz = size then
      match bound 0 lo, bound len hi, mx with
      | some l, some h, none => if l ≤ h ∧ h ≤ len then some (.ms b g (off + l) (h - l)) else none
      | some l, some h, some m => match natOf m with
        | some m => if hi.isSome = true ∧ l = h ∧ h = m ∧ m ≤ len then some .z0 else none
        | none => none
      | _, _, _ => none
    else none
  | _ => none
def sliceNil (x : AV) (lo hi mx : Option AV) : Option AV :=
  match bound 0 lo, bound 0 hi, mx with
  | some 0, some 0, none => some x
  | some 0, some 0, some m => match natOf m with
    | some 0 => if hi.isSome = true then some x else none
    | _ => none
  | _, _, _ => none
def sliceAV (E : Env) (hp : Heap) (t : TypeId) (x : AV) (lo hi mx : Option AV) : Option AV :=
  match E.ti t with
  | some ti => match ti.desc with
    | .string => match x with
      | .str s => sliceStr s lo hi mx
      | _ => none
    | .slice e => match E.ti e with
      | some te => match x with
        | .sl es => sliceSl te.size es lo hi mx
        | .ms b g off len => sliceMs hp te.size b g off len lo hi mx
        | .nils => sliceNil .nils lo hi mx
        | .z0 => sliceNil .z0 lo hi mx
        | _ => none
      | none => none
    | _ => none
  | none => none

def fieldOf (E : Env) (t : TypeId) (f : Nat) : Option (Nat × TI) :=
  match E.ti t with
  | some ⟨.struct fs, _, _, _, _⟩ => match fs[f]? with
    | some fd => match E.ti fd.type with
      | some ti => if ti.size = 0 then none else some (fd.offset, ti)
      | none => none
    | none => none
  | _ => none
def fieldAddrAV (E : Env) (t : TypeId) (x : AV) (f : Nat) : Option AV :=
  match fieldOf E t f, x with
  | some (o', _), .ip es i o => some (.ip es i (o + o'))
  | some (o', _), .mp b g i o => some (.mp b g i (o + o'))
  | _, _ => none
def fieldAV (E : Env) (t : TypeId) (x : AV) (f : Nat) : Option AV :=
  match fieldOf E t f, x with
  | some (o', ti), .agg cs => readCells ti cs o'
  | _, _ => none
def indexAddrAV (E : Env) (hp : Heap) (t : TypeId) (x ix : AV) : Option AV :=
  match E.ti t, natOf ix with
  | some ti, some i => match ti.desc, x with
    | .slice e, .sl es => match E.ti e, es[i]? with
      | some te, some v => if v.cells.length = te.size then some (.ip es i 0) else none
      | _, _ => none
    | .slice e, .ms b g off len => match E.ti e with
      | some te => match hp[b]? with
        | some (.row _ sz _ _) => if i < len ∧ sz = te.size then some (.mp b g (off + i) 0) else none
        | _ => none
      | none => none
    | _, _ => none
  | _, _ => none
def indexAV (E : Env) (t : TypeId) (x ix : AV) : Option AV :=
  match E.ti t, natOf ix with
  | some ti, some i => match ti.desc, x with
    | .string, .str s => (s[i]?).map fun b => .int .u8 b.toNat
    | .array n e, .agg cs => match E.ti e with
      | some te => if i < n then readCells te cs (i * te.size) else none
      | none => none
    | _, _ => none
  | _, _ => none

/-- Parts laid over zero cells. -/
def fillAV (place : Nat → Option (Nat × Nat)) (cs : List AV) : List (Nat × AV) → Option (List AV)
  | [] => some cs
  | (i, v) :: rest => match place i with
    | none => none
    | some (o, n) => if v.fits n = true ∧ o + n ≤ cs.length then fillAV place (cs.take o ++ v.cells ++ cs.drop (o + n)) rest else none
def placeOf (E : Env) (fs : Array Field) (i : Nat) : Option (Nat × Nat) :=
  match fs[i]? with
  | some fd => (E.ti fd.type).map fun tf => (fd.offset, tf.size)
  | none => none
def buildAV (E : Env) (t : TypeId) (parts : List (Nat × AV)) : Option AV :=
  match E.ti t with
  | some ti => match ti.desc with
    | .struct fs =>
      if fs.toList.all (fun f => (E.ti f.type).isSome) && ti.zero.fits ti.size then
        (fillAV (placeOf E fs) ti.zero.cells parts).map .agg
      else none
    | .array _ e => match E.ti e with
      | some te => if ti.zero.fits ti.size then (fillAV (fun i => some (i * te.size, te.size)) ti.zero.cells parts).map .agg else none
      | none => none
    | _ => none
  | none => none
/-- The elements of a slice literal: each place once at most. -/
def fillEls (size : Nat) (es : List AV) : List (Nat × AV) → Option (List AV)
  | [] => some es
  | (i, v) :: rest => if v.fits size = true ∧ i < es.length then fillEls size (es.set i v) rest else none
def buildSliceAV (E : Env) (hp : Heap) (t : TypeId) (len : Nat) (parts : List (Nat × AV)) : Option (AV × Heap) :=
  match E.ti t with
  | some ti => match ti.desc with
    | .slice e => match E.ti e with
      | some te =>
        if len * te.size ≤ 16777216 ∧ 0 < te.size ∧ te.zero.fits te.size = true then match fillEls te.size (List.replicate len te.zero) parts with
          | some es => some (.ms hp.length len 0 len, hp ++ [.row es te.size 0 0])
          | none => none
        else none
      | none => none
    | _ => none
  | none => none
def makeSliceAV (E : Env) (hp : Heap) (t : TypeId) (len cap : AV) : Option (AV × Heap) :=
  match E.ti t, natOf len, natOf cap with
  | some ti, some n, some c => match ti.desc with
    | .slice e => match E.ti e with
      | some te => if n ≤ c ∧ c * te.bytes ≤ 1099511627776 ∧ c ≤ 1099511627776 ∧ 0 < te.size ∧ te.zero.fits te.size = true then
          some (.ms hp.length n 0 n, hp ++ [.row (List.replicate n te.zero) te.size 0 0]) else none
      | none => none
    | _ => none
  | _, _, _ => none

/-- What an append adds. -/
def content (hp : Heap) (size : Nat) : AV → Option (List AV)
  | .nils | .z0 => some []
  | .sl es => if sized size es then some es else none
  | .ms b g off len => match hp[b]? with
    | some (.row es sz wg _) => if wg ≤ g ∧ sz = size then some ((es.drop off).take len) else none
    | _ => none
  | _ => none
def appendAV (E : Env) (hp : Heap) (t u : TypeId) (s x : AV) : Option (AV × Heap) :=
  match E.ti t, E.ti u with
  | some ti, some tu => match ti.desc, tu.desc with
    | .slice e, .slice _ => match E.ti e with
      | some te => match content hp te.size x with
        | some xs => match s with
          | .nils => if xs.length = 0 then some (.nils, hp) else
            if xs.length * te.bytes ≤ 1099511627776 ∧ xs.length ≤ 1099511627776 ∧ 0 < te.size ∧ te.bytes ≤ 1073741824 ∧ te.zero.fits te.size = true then some (.ms hp.length xs.length 0 xs.length, hp ++ [.row xs te.size 0 0]) else none
          | .z0 => if xs.length = 0 then some (.z0, hp) else
            if xs.length * te.bytes ≤ 1099511627776 ∧ xs.length ≤ 1099511627776 ∧ 0 < te.size ∧ te.bytes ≤ 1073741824 ∧ te.zero.fits te.size = true then some (.ms hp.length xs.length 0 xs.length, hp ++ [.row xs te.size 0 0]) else none
          | .sl es => if xs.length = 0 then some (.sl es, hp) else none
          | .ms b g off len => if xs.length = 0 then some (.ms b g off len, hp) else match hp[b]? with
            | some (.row es sz wg com) =>
              if off = 0 ∧ len = g ∧ g = es.length ∧ sz = te.size ∧ com ≤ g ∧ 0 < te.size ∧ (g + xs.length) * te.bytes ≤ 1099511627776 ∧ g + xs.length ≤ 1099511627776 ∧ te.bytes ≤ 1073741824 ∧ te.zero.fits te.size = true then
                some (.ms b (g + xs.length) 0 (g + xs.length), hp.set b (.row (es ++ xs) sz wg com))
              else none
            | _ => none
          | _ => none
        | none => none
      | none => none
    | _, _ => none
  | _, _ => none

def lenAV (E : Env) (t : TypeId) (x : AV) : Option AV :=
  match E.ti t with
  | some ti => match ti.desc, x with
    | .string, .str s => some (.int .i64 s.length)
    | .slice _, .sl es => some (.int .i64 es.length)
    | .slice _, .ms _ _ _ n => some (.int .i64 n)
    | .slice _, .nils => some (.int .i64 0)
    | .slice _, .z0 => some (.int .i64 0)
    | .array n _, _ => some (.int .i64 n)
    | _, _ => none
  | none => none
def minAV (x y : AV) : Option AV :=
  match x, y with
  | .int k a, .int _ b => some (.int k (if b < a then b else a))
  | _, _ => none
def maxAV (x y : AV) : Option AV :=
  match x, y with
  | .int k a, .int _ b => some (.int k (if a < b then b else a))
  | _, _ => none

def builtinAV (E : Env) (hp : Heap) (b : Builtin) (ts : List TypeId) (args : List AV) : Option (AV × Heap) :=
  match b, ts, args with
  | .len, [t], [x] => (lenAV E t x).map (·, hp)
  | .append, [t, u], [s, x] => appendAV E hp t u s x
  | .min, _, [x, y] => (minAV x y).map (·, hp)
  | .max, _, [x, y] => (maxAV x y).map (·, hp)
  | _, _, _ => none

/-- Utf8.decode on a list: the rune at its head, and how many bytes it takes. -/
def decodeHead (l : List UInt8) : Nat × Nat := Utf8.decode ⟨l.toArray⟩ 0

def nextAV (hp : Heap) (it : AV) : Option (AV × Heap) :=
  match it with
  | .it b => match hp[b]? with
    | some (.sit s pos) =>
      if pos < s.length then
        some (.tup [.bool true, .int .i64 pos, .int .i32 (Utf8.decode ⟨s.toArray⟩ pos).1], hp.set b (.sit s (pos + (Utf8.decode ⟨s.toArray⟩ pos).2)))
      else some (.tup [.bool false], hp)
    | _ => none
  | _ => none

/-- Everything but calls of functions. -/
def evOp (E : Env) (tm : List AV) (hp : Heap) (op : Op) : Option (AV × Heap) :=
  match op with
  | .move x | .assign x => some (opnd E tm x, hp)
  | .pick c a b => match opnd E tm c with
    | .bool true => some (opnd E tm a, hp)
    | .bool false => some (opnd E tm b, hp)
    | _ => none
  | .alloc t => match E.ti t with
    | some ti => if ti.zero.fits ti.size = true ∧ 0 < ti.size then some (.mp hp.length 1 0 0, hp ++ [.row [ti.zero] ti.size 0 0]) else none
    | none => none
  | .box t x => match E.ti t with
    | some ti => if (opnd E tm x).fits ti.size = true ∧ 0 < ti.size then some (.mp hp.length 1 0 0, hp ++ [.row [opnd E tm x] ti.size 0 0]) else none
    | none => none
  | .build t parts => (buildAV E t (parts.toList.map fun p => (p.1, opnd E tm p.2))).map (·, hp)
  | .buildSlice t len parts => buildSliceAV E hp t len (parts.toList.map fun p => (p.1, opnd E tm p.2))
  | .load t a => (loadAV E hp t (opnd E tm a)).map (·, hp)
  | .store t a x => (storeAV E hp t (opnd E tm a) (opnd E tm x)).map (.tup [], ·)
  | .nilCheck x => match opnd E tm x with
    | .ip es i o => some (.ip es i o, hp)
    | .mp b g i o => some (.mp b g i o, hp)
    | .fn f caps => some (.fn f caps, hp)
    | _ => none
  | .binOp op t x y _ => (binAV E op t (isConst x || isConst y) (opnd E tm x) (opnd E tm y)).map (·, hp)
  | .unOp op _ x => (unAV op (opnd E tm x)).map (·, hp)
  | .convert s d x => (convAV E s d (opnd E tm x)).map (·, hp)
  | .makeInterface t x => match E.ti t with
    | some ti => match ti.desc with
      | .interface _ => none
      | _ => some (.iface t (opnd E tm x), hp)
    | none => none
  | .makeFunc (.func f) first caps => if first.size = 0 then some (.fn f (caps.toList.map (opnd E tm)), hp) else none
  | .makeSlice t l c => makeSliceAV E hp t (opnd E tm l) (opnd E tm c)
  | .slice t x lo hi mx => (sliceAV E hp t (opnd E tm x) (lo.map (opnd E tm)) (hi.map (opnd E tm)) (mx.map (opnd E tm))).map (·, hp)
  | .fieldAddr t x f => (fieldAddrAV E t (opnd E tm x) f).map (·, hp)
  | .field t x f => (fieldAV E t (opnd E tm x) f).map (·, hp)
  | .indexAddr t x i => (indexAddrAV E hp t (opnd E tm x) (opnd E tm i)).map (·, hp)
  | .index t x i => (indexAV E t (opnd E tm x) (opnd E tm i)).map (·, hp)
  | .range t x => match E.ti t with
    | some ti => match ti.desc, opnd E tm x with
      | .string, .str s => some (.it hp.length, hp ++ [.sit s 0])
      | _, _ => none
    | none => none
  | .next x true => nextAV hp (opnd E tm x)
  | .extract x i => match opnd E tm x with
    | .tup vs => (vs[i]?).map (·, hp)
    | _ => none
  | .call ⟨.builtin b, args, ts⟩ => builtinAV E hp b ts.toList (args.toList.map (opnd E tm))
  | _ => none

def mapO {α β : Type} (f : α → Option β) : List α → Option (List β)
  | [] => some []
  | a :: as => match f a, mapO f as with
    | some b, some bs => some (b :: bs)
    | _, _ => none
/-- A value without own memory: what the own rows hold is read. -/
def many (f : AV → Option AV) (l : List AV) : Option (List AV) := if l.all AV.isPure then some l else mapO f l
def resolve (hp : Heap) : Nat → AV → Option AV
  | 0, v => if v.isPure then some v else none
  | d + 1, v =>
    match v with
    | .ms b g off len => match hp[b]? with
      | some (.row es _ wg _) => if wg ≤ g then (many (resolve hp d) ((es.drop off).take len)).map .sl else none
      | _ => none
    | .mp b g i o => match hp[b]? with
      | some (.row es _ wg _) => if wg ≤ g then (many (resolve hp d) (es.take g)).map (.ip · i o) else none
      | _ => none
    | .it _ => none
    | .agg cs => (many (resolve hp d) cs).map .agg
    | .tup vs => (many (resolve hp d) vs).map .tup
    | .fn f caps => (many (resolve hp d) caps).map (.fn f)
    | .iface t v => (resolve hp d v).map (.iface t)
    | .nils => some (.sl [])
    | .z0 => some (.sl [])
    | v => some v

abbrev CallF := FuncId → List AV → Heap → Option (AV × Heap)
def depth : Nat := 12
/-- A function that is called with values without own memory, and hands such a value back. -/
def pureF (callF : CallF) (f : FuncId) (args : List AV) : Option AV :=
  match callF f (AV.norm.normL args) [] with
  | some (r, hp) => (resolve hp depth r).map AV.norm
  | none => none
/-- Rows from n on are let go, if nothing leads to them. -/
def letGo (n : Nat) (vs : List AV) (hp : Heap) : Heap :=
  if vs.all (AV.under n) && (hp.take n).all (HB.under n) then hp.take n else hp
def evCall (E : Env) (callF : CallF) (hp : Heap) (f : FuncId) (args : List AV) : Option (AV × Heap) :=
  match E.mode f with
  | 0 => match mapO (resolve hp depth) args with
    | some args' => match pureF callF f args' with
      | some r => if args.all AV.isPure || r.scalar then some (r, hp) else none
      | none => none
    | none => none
  | 1 => match callF f args hp with
    | some (r, hp') => some (r, letGo hp.length [r] hp')
    | none => none
  | _ => match mapO (resolve hp depth) args with
    | some args' => match E.lib f args' with
      | some r => if args.all AV.isPure || r.scalar then some (r, hp) else none
      | none => none
    | none => none

def evAny (E : Env) (callF : CallF) (tm : List AV) (hp : Heap) (op : Op) : Option (AV × Heap) :=
  match op with
  | .call ⟨.value f, args, _⟩ => match opnd E tm f with
    | .fn g caps => evCall E callF hp g (args.toList.map (opnd E tm) ++ caps)
    | _ => none
  | op => evOp E tm hp op

def guardAV (all : List Oper) (tm : List AV) (o : Oper) : Option Bool :=
  match o.guard with
  | none => some true
  | some (j, want) => match (all[j]?).bind (·.dst) with
    | none => some false
    | some d => match tm[d]? with
      | some (.bool b) => some (b == want)
      | some (.tup []) => some false
      | _ => none
def putAV (tm : List AV) : Option Tmp → AV → List AV
  | some d, v => tm.set d v
  | none, _ => tm
def evOps (E : Env) (callF : CallF) (all : List Oper) : List Oper → St → Option St
  | [], st => some st
  | o :: os, st => match guardAV all st.tm o with
    | some true => match evAny E callF st.tm st.hp o.op with
      | some (v, hp) => evOps E callF all os ⟨putAV st.tm o.dst v, hp⟩
      | none => none
    | some false => evOps E callF all os ⟨putAV st.tm o.dst (.tup []), st.hp⟩
    | none => none

/-! Regions that draw their order. -/
def isAlloc (o : Oper) : Bool :=
  match o.op, o.guard, o.dst with
  | .alloc _, none, some _ => true
  | _, _, _ => false
def anyEdges (o : Oper) : List Nat := (o.after.toList.filter (Region.binds .any)).map (·.on)
def addNew (a : Nat) (l : List Nat) : List Nat := if l.contains a then l else a :: l
def ancStep (acc : List (List Nat)) (o : Oper) : List Nat := ((anyEdges o).flatMap fun i => i :: acc.getD i []).foldr addNew []
/-- For each operation those that must come before it. -/
def ancs (l : List Oper) : List (List Nat) := l.foldl (fun acc o => acc ++ [ancStep acc o]) []
/-- 0: no own memory is looked at; 1: it is looked at; 2: it is written. -/
def opKind (E : Env) (o : Oper) : Nat :=
  match o.op with
  | .move _ | .assign _ | .pick .. | .binOp .. | .unOp .. | .convert .. | .fieldAddr .. | .field .. | .index .. | .extract .. | .nilCheck _ | .makeInterface .. | .makeFunc .. => 0
  | .load _ (.global _) => 0
  | .call ⟨.builtin .len, _, _⟩ | .call ⟨.builtin .min, _, _⟩ | .call ⟨.builtin .max, _, _⟩ => 0
  | .load .. | .indexAddr .. | .slice .. => 1
  | .call ⟨.value (.func f), _, _⟩ => if E.mode f = 1 then 2 else 1
  | _ => 2
/-- The slots of the variables that the region makes, but not surely ahead of operation k. -/
def confSlots (all : List Oper) (anc : List (List Nat)) (k : Nat) : List Nat :=
  (List.range all.length).filterMap fun i => match all[i]? with
    | some o => if isAlloc o && !(anc.getD k []).contains i then o.dst else none
    | none => none
def storesTo (o : Oper) (ds : List Nat) : Bool :=
  match o.op with
  | .store _ (.tmp d) _ => ds.contains d
  | _ => false
def pairOk (E : Env) (ops : Array Oper) (anc : List (List Nat)) (i j : Nat) (x y : Oper) : Bool :=
  Oper.apart ops x y && (isAlloc x || isAlloc y || opKind E x == 0 || opKind E y == 0 || (opKind E x == 1 && opKind E y == 1) ||
    (opKind E x == 1 && storesTo y (confSlots ops.toList anc i)) || (opKind E y == 1 && storesTo x (confSlots ops.toList anc j)))
def okRegion (E : Env) (ops : Array Oper) : Bool :=
  let anc := ancs ops.toList
  (List.range ops.size).all fun j => match ops[j]? with
    | none => false
    | some y => (anyEdges y).all (fun e => decide (e < j)) &&
      (List.range ops.size).all fun i => match ops[i]? with
        | none => false
        | some x => (i == j || !isAlloc x || !(x.dst == y.dst)) && (!(decide (i < j)) || (anc.getD j []).contains i || pairOk E ops anc i j x y) &&
          (i == j || !isAlloc x || (anc.getD j []).contains i || Oper.apart ops x y)
/-- It does not lead to row b. -/
def AV.avoids (b : Nat) : AV → Bool
  | .mp b' _ _ _ => b' != b
  | .ms b' _ _ _ => b' != b
  | v => v.isPure
def safeOp (E : Env) (tm : List AV) (o : Oper) (d : Nat) : Bool :=
  match tm[d]? with
  | some (.mp b _ _ _) => match o.op with
    | .call c => c.args.toList.all fun x => (opnd E tm x).isPure
    | op => op.operands.toList.all fun x => (opnd E tm x).avoids b
  | _ => false
def evD (E : Env) (callF : CallF) (all : List Oper) (conf : List Nat) (o : Oper) (tm : List AV) (hp : Heap) : Option (AV × Heap) :=
  match guardAV all tm o with
  | some true => if opKind E o == 1 then (if conf.all (safeOp E tm o) then evAny E callF tm hp o.op else none) else evAny E callF tm hp o.op
  | some false => some (.tup [], hp)
  | none => none
def stepD (E : Env) (callF : CallF) (all : List Oper) (anc : List (List Nat)) (k : Nat) (st : St) : Option St :=
  match all[k]? with
  | some o => match evD E callF all (confSlots all anc k) o st.tm st.hp with
    | some (v, hp) => some ⟨putAV st.tm o.dst v, hp⟩
    | none => none
  | none => none
def evListD (E : Env) (callF : CallF) (all : List Oper) (anc : List (List Nat)) : List Nat → St → Option St
  | [], st => some st
  | k :: ks, st => match stepD E callF all anc k st with
    | some st' => evListD E callF all anc ks st'
    | none => none
/-- The variables that the region makes, ahead of all else. -/
def hoist (E : Env) : List Oper → St → Option St
  | [], st => some st
  | o :: os, st => if isAlloc o then
      match o.op, o.dst with
      | .alloc t, some d => match E.ti t with
        | some ti => if ti.zero.fits ti.size = true ∧ 0 < ti.size ∧ d < st.tm.length then hoist E os ⟨st.tm.set d (.mp st.hp.length 1 0 0), st.hp ++ [.row [ti.zero] ti.size 0 0]⟩ else none
        | none => none
      | _, _ => none
    else hoist E os st
def others (ops : List Oper) : List Nat := (List.range ops.length).filter fun k => match ops[k]? with
  | some o => !isAlloc o
  | none => false
def evRegion (E : Env) (callF : CallF) (ops : Array Oper) (draw : Bool) (st : St) : Option St :=
  if draw then
    if okRegion E ops then
      match hoist E ops.toList st with
      | some st1 => evListD E callF ops.toList (ancs ops.toList) (others ops.toList) st1
      | none => none
    else none
  else evOps E callF ops.toList ops.toList st

/-- Ahead of a loop: a nil slice that the loop appends to becomes an own row without elements. -/
def prepOwn : List (Nat × Nat) → St → St
  | [], st => st
  | (d, sz) :: r, st => match st.tm[d]? with
    | some .nils => prepOwn r ⟨st.tm.set d (.ms st.hp.length 0 0 0), st.hp ++ [.row [] sz 0 0]⟩
    | _ => prepOwn r st
def keepLive (live : List Nat) : Nat → List AV → List AV
  | _, [] => []
  | i, v :: vs => (if live.contains i then v else .undef) :: keepLive live (i + 1) vs
/-- At the head of each round: what is read no more is forgotten. -/
def normSt (live : List Nat) (n : Nat) (st : St) : St :=
  ⟨keepLive live 0 st.tm, letGo n (keepLive live 0 st.tm) st.hp⟩

abbrev Iter := (St → Option (X × St)) → (St → St) → St → Option (X × St)
def iter : Nat → Iter
  | 0, _, _, _ => none
  | n + 1, g, nm, st => match g (nm st) with
    | some (.normal, st') => iter n g nm st'
    | r => r

def evCode (E : Env) (callF : CallF) (it : Iter) (f : FuncId) : Nat → Code → St → Option (X × St)
  | _, .skip, st => some (.normal, st)
  | _, .region _ ops draw, st => match evRegion E callF ops draw st with
    | some st' => some (.normal, st')
    | none => none
  | cur, .seq a b, st => match evCode E callF it f cur a st with
    | some (.normal, st') => evCode E callF it f cur b st'
    | r => r
  | cur, .cond c a b, st => match opnd E st.tm c with
    | .bool true => evCode E callF it f cur a st
    | .bool false => evCode E callF it f cur b st
    | _ => none
  | _, .block id body, st => match evCode E callF it f id body st with
    | some (.exit id', st') => if id' = id then some (.normal, st') else some (.exit id', st')
    | r => r
  | cur, .loop body, st => match E.ann f cur with
    | some an => it (evCode E callF it f cur body) (normSt an.live (prepOwn an.own st).hp.length) (prepOwn an.own st)
    | none => it (evCode E callF it f cur body) id st
  | _, .exit id, st => some (.exit id, st)
  | _, .label _, st => some (.normal, st)
  | _, .ret, st => some (.ret, st)
  | _, _, _ => none

def resultAV (E : Env) (st : St) : ResultVar → Option AV
  | .tmp t => some (st.tm.getD t .undef)
  | .cell a t => loadAV E st.hp t (st.tm.getD a .undef)
def resultsAV (E : Env) (fd : Func) (st : St) : Option AV :=
  match mapO (resultAV E st) fd.results.toList with
  | some [v] => some v
  | some vs => some (.tup vs)
  | none => none
def bodyF (E : Env) (callF : CallF) (it : Iter) (f : FuncId) (args : List AV) (hp : Heap) : Option (AV × Heap) :=
  match E.fn f with
  | some fd => match fd.body with
    | some c => match evCode E callF it f 0 c ⟨args ++ List.replicate (fd.ntmps - args.length) (.tup []), hp⟩ with
      | some (.normal, st) | some (.ret, st) => (resultsAV E fd st).map (·, st.hp)
      | _ => none
    | none => none
  | none => none
def evFn (E : Env) : Nat → CallF
  | 0, _, _, _ => none
  | n + 1, f, args, hp => bodyF E (evFn E n) (iter n) f args hp
end Go.EV
