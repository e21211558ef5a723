/-
  An evaluator of the program's code on plain values: no proof in this text, only definitions.
  Values carry the content of memory that nobody writes any more; memory that the running function made itself is a list of rows.
-/
import Derived.Orders
import Derived.Below
import Derived.LoopN
import Derived.Laws.CopyRow
import Derived.Laws.Cells
import Derived.Laws.World
import Derived.Laws.Strings
namespace Go.EV

/-- A value. 'undef': nothing is known. 'sl es': a slice whose elements read as es and are written no more; 'ip es i o': the address of cell o of element i of such a slice. 'ms b g off len': a slice of the own row b, taken when the row had g elements; 'mp b g i o': the address of cell o of its element i. 'z0': a slice of length 0 and capacity 0. 'it b': an iterator of the own memory. -/
inductive AV where
  | undef
  | int (k : IntKind) (n : Int)
  | bool (b : Bool)
  | str (s : List UInt8)
  | agg (cs : List AV)
  | tup (vs : List AV)
  | sl (es : List AV)
  | ip (es : List AV) (i o : Nat)
  | ms (b g off len : Nat)
  | mp (b g i o : Nat)
  | it (b : Nat)
  | nils | z0 | nilp | nilf | nili
  | fn (f : FuncId) (caps : List AV)
  | iface (t : TypeId) (v : AV)
  deriving Inhabited

def AV.cells : AV → List AV
  | .agg cs => cs
  | v => [v]
/-- It may stand in one cell, and something is known of it. -/
def AV.one : AV → Bool
  | .undef | .agg _ | .tup _ => false
  | _ => true
def AV.fits (n : Nat) (v : AV) : Bool := v.cells.length == n && v.cells.all AV.one
def AV.isUndef : AV → Bool
  | .undef => true
  | _ => false

/-- It leads to no own memory. -/
def AV.isPure : AV → Bool
  | .ms .. | .mp .. | .it _ => false
  | .agg cs => allPure cs
  | .tup vs => allPure vs
  | .fn _ caps => allPure caps
  | .iface _ v => v.isPure
  | _ => true
where
  allPure : List AV → Bool
    | [] => true
    | v :: vs => v.isPure && allPure vs
/-- It leads to no memory at all. -/
def AV.scalar : AV → Bool
  | .int .. | .bool _ | .str _ | .nils | .nilp | .nilf | .nili | .undef => true
  | .agg cs => allScalar cs
  | .tup vs => allScalar vs
  | .iface _ v => v.scalar
  | _ => false
where
  allScalar : List AV → Bool
    | [] => true
    | v :: vs => v.scalar && allScalar vs
/-- It leads to rows below n alone. -/
def AV.under (n : Nat) : AV → Bool
  | .ms b .. | .mp b .. | .it b => decide (b < n)
  | .agg cs => allBelow n cs
  | .tup vs => allBelow n vs
  | .fn _ caps => allBelow n caps
  | .iface _ v => v.under n
  | _ => true
where
  allBelow (n : Nat) : List AV → Bool
    | [] => true
    | v :: vs => v.under n && allBelow n vs

/-- It leads to rows from n on alone. -/
def AV.over (n : Nat) : AV → Bool
  | .ms b .. | .mp b .. | .it b => decide (n ≤ b)
  | .agg cs => allOver n cs
  | .tup vs => allOver n vs
  | .fn _ caps => allOver n caps
  | .iface _ v => v.over n
  | _ => true
where
  allOver (n : Nat) : List AV → Bool
    | [] => true
    | v :: vs => v.over n && allOver n vs

/-- Own memory: a row of elements of sz cells each, 'wg': the length that it had when it was written last, 'com': so many elements are written no more; or an iterator over a string. -/
inductive HB where
  | row (es : List AV) (sz wg com : Nat)
  | sit (s : List UInt8) (pos : Nat)
  deriving Inhabited
/-- Slices without elements read alike. -/
def AV.norm : AV → AV
  | .nils | .z0 => .sl []
  | .agg cs => .agg (normL cs)
  | .tup vs => .tup (normL vs)
  | .sl es => .sl (normL es)
  | .ip es i o => .ip (normL es) i o
  | .fn f caps => .fn f (normL caps)
  | .iface t v => .iface t v.norm
  | v => v
where
  normL : List AV → List AV
    | [] => []
    | v :: vs => v.norm :: normL vs
def HB.under (n : Nat) : HB → Bool
  | .row es .. => es.all (AV.under n)
  | .sit .. => true
def HB.over (n : Nat) : HB → Bool
  | .row es .. => es.all (AV.over n)
  | .sit .. => true
abbrev Heap := List HB

structure TI where
  desc : TypeDesc
  agg : Bool
  size : Nat
  bytes : Nat
  zero : AV

structure LAnn where
  live : List Nat
  own : List (Nat × Nat)

structure Env where
  ti : TypeId → Option TI
  fn : FuncId → Option Func
  gl : Nat → Option AV
  mode : FuncId → Nat
  lib : FuncId → List AV → Option AV
  ann : FuncId → Nat → Option LAnn

structure St where
  tm : List AV
  hp : Heap

inductive X where
  | normal | exit (id : Nat) | ret
  deriving DecidableEq

def constAV : Value → AV
  | .int k n => .int k n
  | .bool b => .bool b
  | .string s => .str s.data.toList
  | .nilIface => .nili
  | .nilFunc => .nilf
  | .pointer none => .nilp
  | .slice none 0 0 => .nils
  | .agg cs => .agg (cellsAV cs.toList)
  | _ => .undef
where
  cellsAV : List Value → List AV
    | [] => []
    | .int k n :: r => .int k n :: cellsAV r
    | .bool b :: r => .bool b :: cellsAV r
    | .string s :: r => .str s.data.toList :: cellsAV r
    | .nilIface :: r => .nili :: cellsAV r
    | .nilFunc :: r => .nilf :: cellsAV r
    | .pointer none :: r => .nilp :: cellsAV r
    | .slice none 0 0 :: r => .nils :: cellsAV r
    | _ :: r => .undef :: cellsAV r

def opnd (E : Env) (tm : List AV) : Operand → AV
  | .tmp t => tm.getD t .undef
  | .const v => constAV v
  | .global g => match E.gl g with
    | some v => .ip [v] 0 0
    | none => .undef
  | .func f => .fn f []

def isConst : Operand → Bool
  | .const _ => true
  | _ => false

/-- Cells o.. of an element, as a value of a type. -/
def readCells (ti : TI) (cs : List AV) (o : Nat) : Option AV :=
  if ti.agg then
    if o + ti.size ≤ cs.length then some (.agg ((cs.drop o).take ti.size)) else none
  else cs[o]?
def writeCells (e : AV) (o : Nat) (vs : List AV) : AV :=
  match e with
  | .agg cs => .agg (cs.take o ++ vs ++ cs.drop (o + vs.length))
  | _ => vs.headD .undef

def loadAV (E : Env) (hp : Heap) (t : TypeId) (a : AV) : Option AV :=
  match E.ti t, a with
  | some ti, .ip es i o => match es[i]? with
    | some e => readCells ti e.cells o
    | none => none
  | some ti, .mp b g i o => match hp[b]? with
    | some (.row es _ wg _) => if wg ≤ g then match es[i]? with
        | some e => readCells ti e.cells o
        | none => none
      else none
    | _ => none
  | _, _ => none

def storeAV (E : Env) (hp : Heap) (t : TypeId) (a v : AV) : Option Heap :=
  match E.ti t, a with
  | some ti, .mp b g i o => match hp[b]? with
    | some (.row es sz _ com) =>
      if g = es.length ∧ com ≤ i ∧ v.fits ti.size = true ∧ 0 < ti.size then match es[i]? with
        | some e => if o + ti.size ≤ e.cells.length then some (hp.set b (.row (es.set i (writeCells e o v.cells)) sz g com)) else none
        | none => none
      else none
    | _ => none
  | _, _ => none

def intBin (op : BinOp) (k : IntKind) (a b : Int) : Option AV :=
  match op with
  | .add => some (.int k (k.wrap (a + b)))
  | .sub => some (.int k (k.wrap (a - b)))
  | .mul => some (.int k (k.wrap (a * b)))
  | .quo => if b = 0 then none else some (.int k (k.wrap (a.tdiv b)))
  | .rem => if b = 0 then none else some (.int k (a.tmod b))
  | .and => some (.int k (k.wrap (BitVec.ofInt k.bits a &&& BitVec.ofInt k.bits b).toNat))
  | .or => some (.int k (k.wrap (BitVec.ofInt k.bits a ||| BitVec.ofInt k.bits b).toNat))
  | .xor => some (.int k (k.wrap (BitVec.ofInt k.bits a ^^^ BitVec.ofInt k.bits b).toNat))
  | .andNot => some (.int k (k.wrap (BitVec.ofInt k.bits a &&& ~~~(BitVec.ofInt k.bits b)).toNat))
  | .eql => some (.bool (a == b))
  | .neq => some (.bool (a != b))
  | .lss => some (.bool (decide (a < b)))
  | .leq => some (.bool (decide (a ≤ b)))
  | .gtr => some (.bool (decide (a > b)))
  | .geq => some (.bool (decide (a ≥ b)))
  | _ => none
def shiftBin (op : BinOp) (k : IntKind) (a b : Int) : Option AV :=
  if b < 0 then none else
  match op with
  | .shl => some (.int k (k.wrap (a * 2 ^ (min b.toNat k.bits))))
  | .shr => some (.int k (a.fdiv (2 ^ (min b.toNat k.bits))))
  | _ => none
def strBin (op : BinOp) (a b : List UInt8) : Option AV :=
  match op with
  | .add => if a.length + b.length ≤ 9223372036854775807 then some (.str (a ++ b)) else none
  | .eql => some (.bool (a == b))
  | .neq => some (.bool (!(a == b)))
  | .lss => some (.bool (Op.bytesLess a b))
  | .leq => some (.bool (Op.bytesLess a b || a == b))
  | .gtr => some (.bool (!(Op.bytesLess a b || a == b)))
  | .geq => some (.bool (!(Op.bytesLess a b)))
  | _ => none
def eqD (d : TypeDesc) (c : Bool) (x y : AV) : Option Bool :=
  match d, x, y with
  | .bool, .bool a, .bool b => some (a == b)
  | .interface _, .nili, .nili => if c then some true else none
  | .interface _, .iface _ _, .nili => some false
  | .interface _, .nili, .iface _ _ => some false
  | .pointer _, .nilp, .nilp => some true
  | .pointer _, .ip .., .nilp => some false
  | .pointer _, .nilp, .ip .. => some false
  | .pointer _, .mp .., .nilp => some false
  | .pointer _, .nilp, .mp .. => some false
  | .slice _, .nils, .nils => some true
  | .slice _, .sl (_ :: _), .nils => some false
  | _, _, _ => none
def eqAV (E : Env) (t : TypeId) (c : Bool) (x y : AV) : Option Bool :=
  match E.ti t with
  | some ti => eqD ti.desc c x y
  | none => none
def binInt (op : BinOp) (k : IntKind) (a : Int) (k' : IntKind) (b : Int) : Option AV :=
  if op = .shl ∨ op = .shr then shiftBin op k a b else if k = k' then intBin op k a b else none
def binEq (E : Env) (op : BinOp) (t : TypeId) (c : Bool) (x y : AV) : Option AV :=
  if op = .eql then (eqAV E t c x y).map .bool else if op = .neq then (eqAV E t c x y).map fun b => .bool (!b) else none
def binAV (E : Env) (op : BinOp) (t : TypeId) (c : Bool) (x y : AV) : Option AV :=
  match x, y with
  | .int k a, .int k' b => binInt op k a k' b
  | .str a, .str b => strBin op a b
  | x, y => binEq E op t c x y
def unAV (op : UnOp) (x : AV) : Option AV :=
  match op, x with
  | .neg, .int k n => some (.int k (k.wrap (0 - n)))
  | .xor, .int k n => intBin .xor k (if k.signed then -1 else k.max) n
  | .not, .bool b => some (.bool (!b))
  | _, _ => none
/-- '[]byte(s)': its bytes. -/
def convBytes (E : Env) (src dst : TypeId) (x : AV) : Option (List UInt8) :=
  match E.ti src, E.ti dst, x with
  | some ⟨.string, _, _, _, _⟩, some ⟨.slice e, _, _, _, _⟩, .str s => match E.ti e with
    | some ⟨.int .u8, _, _, _, _⟩ => some s
    | _ => none
  | _, _, _ => none
def byteAV (b : UInt8) : AV := .int .u8 b.toNat
def convPlain (E : Env) (src dst : TypeId) (x : AV) : Option AV :=
  match E.ti src, E.ti dst, x with
  | some _, some ⟨.int k, _, _, _, _⟩, .int _ n => some (.int k (k.wrap n))
  | some _, some ⟨.string, _, _, _, _⟩, .str s => some (.str s)
  | _, _, _ => none
def convAV (E : Env) (src dst : TypeId) (x : AV) : Option AV :=
  match convBytes E src dst x with
  | some s => some (.sl (s.map byteAV))
  | none => convPlain E src dst x

def natOf : AV → Option Nat
  | .int _ n => if 0 ≤ n then some n.toNat else none
  | _ => none
/-- A bound that may be left out. -/
def bound (d : Nat) : Option AV → Option Nat
  | none => some d
  | some v => natOf v
def sized (n : Nat) (es : List AV) : Bool := es.all fun e => e.cells.length == n
def sliceStr (s : List UInt8) (lo hi mx : Option AV) : Option AV :=
  match bound 0 lo, bound s.length hi, mx with
  | some l, some h, none => if l ≤ h ∧ h ≤ s.length then some (.str ((s.drop l).take (h - l))) else none
  | _, _, _ => none
def sliceSl (size : Nat) (es : List AV) (lo hi mx : Option AV) : Option AV :=
  if sized size es then
    match bound 0 lo, bound es.length hi, mx with
    | some l, some h, none => if l ≤ h ∧ h ≤ es.length then some (.sl ((es.drop l).take (h - l))) else none
    | some l, some h, some m => match natOf m with
      | some m => if hi.isSome = true ∧ l ≤ h ∧ h ≤ m ∧ m ≤ es.length then (if l = m then some .z0 else some (.sl ((es.drop l).take (h - l)))) else none
      | none => none
    | _, _, _ => none
  else none
def sliceMs (hp : Heap) (size b g off len : Nat) (lo hi mx : Option AV) : Option AV :=
  match hp[b]? with
  | some (.row _ sz _ _) =>
    if sz = size then
      match bound 0 lo, bound len hi, mx with
      | some l, some h, none => if l ≤ h ∧ h ≤ len then some (.ms b g (off + l) (h - l)) else none
      | some l, some h, some m => match natOf m with
        | some m => if hi.isSome = true ∧ l = h ∧ h = m ∧ m ≤ len then some .z0 else none
        | none => none
      | _, _, _ => none
    else none
  | _ => none
def sliceNil (x : AV) (lo hi mx : Option AV) : Option AV :=
  match bound 0 lo, bound 0 hi, mx with
  | some 0, some 0, none => some x
  | some 0, some 0, some m => match natOf m with
    | some 0 => if hi.isSome = true then some x else none
    | _ => none
  | _, _, _ => none
def sliceAV (E : Env) (hp : Heap) (t : TypeId) (x : AV) (lo hi mx : Option AV) : Option AV :=
  match E.ti t with
  | some ti => match ti.desc with
    | .string => match x with
      | .str s => sliceStr s lo hi mx
      | _ => none
    | .slice e => match E.ti e with
      | some te => match x with
        | .sl es => sliceSl te.size es lo hi mx
        | .ms b g off len => sliceMs hp te.size b g off len lo hi mx
        | .nils => sliceNil .nils lo hi mx
        | .z0 => sliceNil .z0 lo hi mx
        | _ => none
      | none => none
    | _ => none
  | none => none

def fieldOf (E : Env) (t : TypeId) (f : Nat) : Option (Nat × TI) :=
  match E.ti t with
  | some ⟨.struct fs, _, _, _, _⟩ => match fs[f]? with
    | some fd => match E.ti fd.type with
      | some ti => if ti.size = 0 then none else some (fd.offset, ti)
      | none => none
    | none => none
  | _ => none
def fieldAddrAV (E : Env) (t : TypeId) (x : AV) (f : Nat) : Option AV :=
  match fieldOf E t f, x with
  | some (o', _), .ip es i o => some (.ip es i (o + o'))
  | some (o', _), .mp b g i o => some (.mp b g i (o + o'))
  | _, _ => none
def fieldAV (E : Env) (t : TypeId) (x : AV) (f : Nat) : Option AV :=
  match fieldOf E t f, x with
  | some (o', ti), .agg cs => readCells ti cs o'
  | _, _ => none
def indexAddrAV (E : Env) (hp : Heap) (t : TypeId) (x ix : AV) : Option AV :=
  match E.ti t, natOf ix with
  | some ti, some i => match ti.desc, x with
    | .slice e, .sl es => match E.ti e, es[i]? with
      | some te, some v => if v.cells.length = te.size then some (.ip es i 0) else none
      | _, _ => none
    | .slice e, .ms b g off len => match E.ti e with
      | some te => match hp[b]? with
        | some (.row _ sz _ _) => if i < len ∧ sz = te.size then some (.mp b g (off + i) 0) else none
        | _ => none
      | none => none
    | _, _ => none
  | _, _ => none
def indexAV (E : Env) (t : TypeId) (x ix : AV) : Option AV :=
  match E.ti t, natOf ix with
  | some ti, some i => match ti.desc, x with
    | .string, .str s => (s[i]?).map fun b => .int .u8 b.toNat
    | .array n e, .agg cs => match E.ti e with
      | some te => if i < n then readCells te cs (i * te.size) else none
      | none => none
    | _, _ => none
  | _, _ => none

/-- Parts laid over zero cells. -/
def fillAV (place : Nat → Option (Nat × Nat)) (cs : List AV) : List (Nat × AV) → Option (List AV)
  | [] => some cs
  | (i, v) :: rest => match place i with
    | none => none
    | some (o, n) => if v.fits n = true ∧ o + n ≤ cs.length then fillAV place (cs.take o ++ v.cells ++ cs.drop (o + n)) rest else none
def placeOf (E : Env) (fs : Array Field) (i : Nat) : Option (Nat × Nat) :=
  match fs[i]? with
  | some fd => (E.ti fd.type).map fun tf => (fd.offset, tf.size)
  | none => none
def buildAV (E : Env) (t : TypeId) (parts : List (Nat × AV)) : Option AV :=
  match E.ti t with
  | some ti => match ti.desc with
    | .struct fs =>
      if fs.toList.all (fun f => (E.ti f.type).isSome) && ti.zero.fits ti.size then
        (fillAV (placeOf E fs) ti.zero.cells parts).map .agg
      else none
    | .array _ e => match E.ti e with
      | some te => if ti.zero.fits ti.size then (fillAV (fun i => some (i * te.size, te.size)) ti.zero.cells parts).map .agg else none
      | none => none
    | _ => none
  | none => none
/-- The elements of a slice literal: each place once at most. -/
def fillEls (size : Nat) (es : List AV) : List (Nat × AV) → Option (List AV)
  | [] => some es
  | (i, v) :: rest => if v.fits size = true ∧ i < es.length then fillEls size (es.set i v) rest else none
def buildSliceAV (E : Env) (hp : Heap) (t : TypeId) (len : Nat) (parts : List (Nat × AV)) : Option (AV × Heap) :=
  match E.ti t with
  | some ti => match ti.desc with
    | .slice e => match E.ti e with
      | some te =>
        if len * te.size ≤ 16777216 ∧ 0 < te.size ∧ te.zero.fits te.size = true then match fillEls te.size (List.replicate len te.zero) parts with
          | some es => some (.ms hp.length len 0 len, hp ++ [.row es te.size 0 0])
          | none => none
        else none
      | none => none
    | _ => none
  | none => none
def makeSliceAV (E : Env) (hp : Heap) (t : TypeId) (len cap : AV) : Option (AV × Heap) :=
  match E.ti t, natOf len, natOf cap with
  | some ti, some n, some c => match ti.desc with
    | .slice e => match E.ti e with
      | some te => if n ≤ c ∧ c * te.bytes ≤ 1099511627776 ∧ c ≤ 1099511627776 ∧ 0 < te.size ∧ te.zero.fits te.size = true then
          some (.ms hp.length n 0 n, hp ++ [.row (List.replicate n te.zero) te.size 0 0]) else none
      | none => none
    | _ => none
  | _, _, _ => none

/-- What an append adds. -/
def content (hp : Heap) (size : Nat) : AV → Option (List AV)
  | .nils | .z0 => some []
  | .sl es => if sized size es then some es else none
  | .ms b g off len => match hp[b]? with
    | some (.row es sz wg _) => if wg ≤ g ∧ sz = size then some ((es.drop off).take len) else none
    | _ => none
  | _ => none
def appendAV (E : Env) (hp : Heap) (t u : TypeId) (s x : AV) : Option (AV × Heap) :=
  match E.ti t, E.ti u with
  | some ti, some tu => match ti.desc, tu.desc with
    | .slice e, .slice _ => match E.ti e with
      | some te => match content hp te.size x with
        | some xs => match s with
          | .nils => if xs.length = 0 then some (.nils, hp) else
            if xs.length * te.bytes ≤ 1099511627776 ∧ xs.length ≤ 1099511627776 ∧ 0 < te.size ∧ te.bytes ≤ 1073741824 ∧ te.zero.fits te.size = true then some (.ms hp.length xs.length 0 xs.length, hp ++ [.row xs te.size 0 0]) else none
          | .z0 => if xs.length = 0 then some (.z0, hp) else
            if xs.length * te.bytes ≤ 1099511627776 ∧ xs.length ≤ 1099511627776 ∧ 0 < te.size ∧ te.bytes ≤ 1073741824 ∧ te.zero.fits te.size = true then some (.ms hp.length xs.length 0 xs.length, hp ++ [.row xs te.size 0 0]) else none
          | .sl es => if xs.length = 0 then some (.sl es, hp) else none
          | .ms b g off len => if xs.length = 0 then some (.ms b g off len, hp) else match hp[b]? with
            | some (.row es sz wg com) =>
              if off = 0 ∧ len = g ∧ g = es.length ∧ sz = te.size ∧ com ≤ g ∧ 0 < te.size ∧ (g + xs.length) * te.bytes ≤ 1099511627776 ∧ g + xs.length ≤ 1099511627776 ∧ te.bytes ≤ 1073741824 ∧ te.zero.fits te.size = true then
                some (.ms b (g + xs.length) 0 (g + xs.length), hp.set b (.row (es ++ xs) sz wg com))
              else none
            | _ => none
          | _ => none
        | none => none
      | none => none
    | _, _ => none
  | _, _ => none

def lenAV (E : Env) (t : TypeId) (x : AV) : Option AV :=
  match E.ti t with
  | some ti => match ti.desc, x with
    | .string, .str s => some (.int .i64 s.length)
    | .slice _, .sl es => some (.int .i64 es.length)
    | .slice _, .ms _ _ _ n => some (.int .i64 n)
    | .slice _, .nils => some (.int .i64 0)
    | .slice _, .z0 => some (.int .i64 0)
    | .array n _, _ => some (.int .i64 n)
    | _, _ => none
  | none => none
def minAV (x y : AV) : Option AV :=
  match x, y with
  | .int k a, .int _ b => some (.int k (if b < a then b else a))
  | _, _ => none
def maxAV (x y : AV) : Option AV :=
  match x, y with
  | .int k a, .int _ b => some (.int k (if a < b then b else a))
  | _, _ => none

def builtinAV (E : Env) (hp : Heap) (b : Builtin) (ts : List TypeId) (args : List AV) : Option (AV × Heap) :=
  match b, ts, args with
  | .len, [t], [x] => (lenAV E t x).map (·, hp)
  | .append, [t, u], [s, x] => appendAV E hp t u s x
  | .min, _, [x, y] => (minAV x y).map (·, hp)
  | .max, _, [x, y] => (maxAV x y).map (·, hp)
  | _, _, _ => none

/-- Utf8.decode on a list: the rune at its head, and how many bytes it takes. -/
def decodeHead (l : List UInt8) : Nat × Nat := Utf8.decode ⟨l.toArray⟩ 0

def nextAV (hp : Heap) (it : AV) : Option (AV × Heap) :=
  match it with
  | .it b => match hp[b]? with
    | some (.sit s pos) =>
      if pos < s.length then
        some (.tup [.bool true, .int .i64 pos, .int .i32 (Utf8.decode ⟨s.toArray⟩ pos).1], hp.set b (.sit s (pos + (Utf8.decode ⟨s.toArray⟩ pos).2)))
      else some (.tup [.bool false], hp)
    | _ => none
  | _ => none

/-- Everything but calls of functions. -/
def evOp (E : Env) (tm : List AV) (hp : Heap) (op : Op) : Option (AV × Heap) :=
  match op with
  | .move x | .assign x => some (opnd E tm x, hp)
  | .pick c a b => match opnd E tm c with
    | .bool true => some (opnd E tm a, hp)
    | .bool false => some (opnd E tm b, hp)
    | _ => none
  | .alloc t => match E.ti t with
    | some ti => if ti.zero.fits ti.size = true ∧ 0 < ti.size then some (.mp hp.length 1 0 0, hp ++ [.row [ti.zero] ti.size 0 0]) else none
    | none => none
  | .box t x => match E.ti t with
    | some ti => if (opnd E tm x).fits ti.size = true ∧ 0 < ti.size then some (.mp hp.length 1 0 0, hp ++ [.row [opnd E tm x] ti.size 0 0]) else none
    | none => none
  | .build t parts => (buildAV E t (parts.toList.map fun p => (p.1, opnd E tm p.2))).map (·, hp)
  | .buildSlice t len parts => buildSliceAV E hp t len (parts.toList.map fun p => (p.1, opnd E tm p.2))
  | .load t a => (loadAV E hp t (opnd E tm a)).map (·, hp)
  | .store t a x => (storeAV E hp t (opnd E tm a) (opnd E tm x)).map (.tup [], ·)
  | .nilCheck x => match opnd E tm x with
    | .ip es i o => some (.ip es i o, hp)
    | .mp b g i o => some (.mp b g i o, hp)
    | .fn f caps => some (.fn f caps, hp)
    | _ => none
  | .binOp op t x y _ => (binAV E op t (isConst x || isConst y) (opnd E tm x) (opnd E tm y)).map (·, hp)
  | .unOp op _ x => (unAV op (opnd E tm x)).map (·, hp)
  | .convert s d x => (convAV E s d (opnd E tm x)).map (·, hp)
  | .makeInterface t x => match E.ti t with
    | some ti => match ti.desc with
      | .interface _ => none
      | _ => some (.iface t (opnd E tm x), hp)
    | none => none
  | .makeFunc (.func f) first caps => if first.size = 0 then some (.fn f (caps.toList.map (opnd E tm)), hp) else none
  | .makeSlice t l c => makeSliceAV E hp t (opnd E tm l) (opnd E tm c)
  | .slice t x lo hi mx => (sliceAV E hp t (opnd E tm x) (lo.map (opnd E tm)) (hi.map (opnd E tm)) (mx.map (opnd E tm))).map (·, hp)
  | .fieldAddr t x f => (fieldAddrAV E t (opnd E tm x) f).map (·, hp)
  | .field t x f => (fieldAV E t (opnd E tm x) f).map (·, hp)
  | .indexAddr t x i => (indexAddrAV E hp t (opnd E tm x) (opnd E tm i)).map (·, hp)
  | .index t x i => (indexAV E t (opnd E tm x) (opnd E tm i)).map (·, hp)
  | .range t x => match E.ti t with
    | some ti => match ti.desc, opnd E tm x with
      | .string, .str s => some (.it hp.length, hp ++ [.sit s 0])
      | _, _ => none
    | none => none
  | .next x true => nextAV hp (opnd E tm x)
  | .extract x i => match opnd E tm x with
    | .tup vs => (vs[i]?).map (·, hp)
    | _ => none
  | .call ⟨.builtin b, args, ts⟩ => builtinAV E hp b ts.toList (args.toList.map (opnd E tm))
  | _ => none

def mapO {α β : Type} (f : α → Option β) : List α → Option (List β)
  | [] => some []
  | a :: as => match f a, mapO f as with
    | some b, some bs => some (b :: bs)
    | _, _ => none
/-- A value without own memory: what the own rows hold is read. -/
def many (f : AV → Option AV) (l : List AV) : Option (List AV) := if l.all AV.isPure then some l else mapO f l
def resolve (hp : Heap) : Nat → AV → Option AV
  | 0, v => if v.isPure then some v else none
  | d + 1, v =>
    match v with
    | .ms b g off len => match hp[b]? with
      | some (.row es _ wg _) => if wg ≤ g then (many (resolve hp d) ((es.drop off).take len)).map .sl else none
      | _ => none
    | .mp b g i o => match hp[b]? with
      | some (.row es _ wg _) => if wg ≤ g then (many (resolve hp d) (es.take g)).map (.ip · i o) else none
      | _ => none
    | .it _ => none
    | .agg cs => (many (resolve hp d) cs).map .agg
    | .tup vs => (many (resolve hp d) vs).map .tup
    | .fn f caps => (many (resolve hp d) caps).map (.fn f)
    | .iface t v => (resolve hp d v).map (.iface t)
    | .nils => some (.sl [])
    | .z0 => some (.sl [])
    | v => some v

abbrev CallF := FuncId → List AV → Heap → Option (AV × Heap)
def depth : Nat := 12
/-- A function that is called with values without own memory, and hands such a value back. -/
def pureF (callF : CallF) (f : FuncId) (args : List AV) : Option AV :=
  match callF f (AV.norm.normL args) [] with
  | some (r, hp) => (resolve hp depth r).map AV.norm
  | none => none
/-- Rows from n on are let go, if nothing leads to them. -/
def letGo (n : Nat) (vs : List AV) (hp : Heap) : Heap :=
  if vs.all (AV.under n) && (hp.take n).all (HB.under n) then hp.take n else hp
/-- What a call has made is read and written no more: rows from n on go. -/
def frozen (n : Nat) (hp : Heap) (r : AV) : Option AV :=
  if r.over n && (hp.drop n).all (HB.over n) && (hp.take n).all (HB.under n) then (resolve (List.replicate n (HB.sit [] 0) ++ hp.drop n) depth r).map AV.norm else none
def evCall (E : Env) (callF : CallF) (hp : Heap) (f : FuncId) (args : List AV) : Option (AV × Heap) :=
  match E.mode f with
  | 0 => match mapO (resolve hp depth) args with
    | some args' => match pureF callF f args' with
      | some r => if args.all AV.isPure || r.scalar then some (r, hp) else none
      | none => none
    | none => none
  | 1 => match callF f args hp with
    | some (r, hp') => some (r, letGo hp.length [r] hp')
    | none => none
  | 3 => match callF f args hp with
    | some (r, hp') => match frozen hp.length hp' r with
      | some r' => some (r', hp'.take hp.length)
      | none => none
    | none => none
  | _ => match mapO (resolve hp depth) args with
    | some args' => match E.lib f args' with
      | some r => if args.all AV.isPure || r.scalar then some (r, hp) else none
      | none => none
    | none => none

def evAny (E : Env) (callF : CallF) (tm : List AV) (hp : Heap) (op : Op) : Option (AV × Heap) :=
  match op with
  | .call ⟨.value f, args, _⟩ => match opnd E tm f with
    | .fn g caps => evCall E callF hp g (args.toList.map (opnd E tm) ++ caps)
    | _ => none
  | op => evOp E tm hp op

def guardAV (all : List Oper) (tm : List AV) (o : Oper) : Option Bool :=
  match o.guard with
  | none => some true
  | some (j, want) => match (all[j]?).bind (·.dst) with
    | none => some false
    | some d => match tm[d]? with
      | some (.bool b) => some (b == want)
      | some (.tup []) => some false
      | _ => none
def putAV (tm : List AV) : Option Tmp → AV → List AV
  | some d, v => tm.set d v
  | none, _ => tm
def evOps (E : Env) (callF : CallF) (all : List Oper) : List Oper → St → Option St
  | [], st => some st
  | o :: os, st => match guardAV all st.tm o with
    | some true => match evAny E callF st.tm st.hp o.op with
      | some (v, hp) => evOps E callF all os ⟨putAV st.tm o.dst v, hp⟩
      | none => none
    | some false => evOps E callF all os ⟨putAV st.tm o.dst (.tup []), st.hp⟩
    | none => none

/-! Regions that draw their order. -/
def isAlloc (o : Oper) : Bool :=
  match o.op, o.guard, o.dst with
  | .alloc _, none, some _ => true
  | _, _, _ => false
def anyEdges (o : Oper) : List Nat := (o.after.toList.filter (Region.binds .any)).map (·.on)
def addNew (a : Nat) (l : List Nat) : List Nat := if l.contains a then l else a :: l
def ancStep (acc : List (List Nat)) (o : Oper) : List Nat := ((anyEdges o).flatMap fun i => i :: acc.getD i []).foldr addNew []
/-- For each operation those that must come before it. -/
def ancs (l : List Oper) : List (List Nat) := l.foldl (fun acc o => acc ++ [ancStep acc o]) []
/-- 0: no own memory is looked at; 1: it is looked at; 2: it is written. -/
def opKind (E : Env) (o : Oper) : Nat :=
  match o.op with
  | .move _ | .assign _ | .pick .. | .binOp .. | .unOp .. | .convert .. | .fieldAddr .. | .field .. | .index .. | .extract .. | .nilCheck _ | .makeInterface .. | .makeFunc .. => 0
  | .load _ (.global _) => 0
  | .call ⟨.builtin .len, _, _⟩ | .call ⟨.builtin .min, _, _⟩ | .call ⟨.builtin .max, _, _⟩ => 0
  | .load .. | .indexAddr .. | .slice .. => 1
  | .call ⟨.value (.func f), _, _⟩ => if E.mode f = 1 ∨ E.mode f = 3 then 2 else 1
  | _ => 2
/-- The slots of the variables that the region makes, but not surely ahead of operation k. -/
def confSlots (all : List Oper) (anc : List (List Nat)) (k : Nat) : List Nat :=
  (List.range all.length).filterMap fun i => match all[i]? with
    | some o => if isAlloc o && !(anc.getD k []).contains i then o.dst else none
    | none => none
def storesTo (o : Oper) (ds : List Nat) : Bool :=
  match o.op with
  | .store _ (.tmp d) _ => ds.contains d
  | _ => false
def pairOk (E : Env) (ops : Array Oper) (anc : List (List Nat)) (i j : Nat) (x y : Oper) : Bool :=
  Oper.apart ops x y && (isAlloc x || isAlloc y || opKind E x == 0 || opKind E y == 0 || (opKind E x == 1 && opKind E y == 1) ||
    (opKind E x == 1 && storesTo y (confSlots ops.toList anc i)) || (opKind E y == 1 && storesTo x (confSlots ops.toList anc j)))
def okRegion (E : Env) (ops : Array Oper) : Bool :=
  let anc := ancs ops.toList
  (List.range ops.size).all fun j => match ops[j]? with
    | none => false
    | some y => (anyEdges y).all (fun e => decide (e < j)) &&
      (List.range ops.size).all fun i => match ops[i]? with
        | none => false
        | some x => (i == j || !isAlloc x || !(x.dst == y.dst)) && (!(decide (i < j)) || (anc.getD j []).contains i || pairOk E ops anc i j x y) &&
          (i == j || !isAlloc x || (anc.getD j []).contains i || Oper.apart ops x y)
/-- It does not lead to row b. -/
def AV.avoids (b : Nat) : AV → Bool
  | .mp b' _ _ _ => b' != b
  | .ms b' _ _ _ => b' != b
  | v => v.isPure
def safeOp (E : Env) (tm : List AV) (o : Oper) (d : Nat) : Bool :=
  match tm[d]? with
  | some (.mp b _ _ _) => match o.op with
    | .call c => c.args.toList.all fun x => (opnd E tm x).isPure
    | op => op.operands.toList.all fun x => (opnd E tm x).avoids b
  | _ => false
def evD (E : Env) (callF : CallF) (all : List Oper) (conf : List Nat) (o : Oper) (tm : List AV) (hp : Heap) : Option (AV × Heap) :=
  match guardAV all tm o with
  | some true => if opKind E o == 1 then (if conf.all (safeOp E tm o) then evAny E callF tm hp o.op else none) else evAny E callF tm hp o.op
  | some false => some (.tup [], hp)
  | none => none
def stepD (E : Env) (callF : CallF) (all : List Oper) (anc : List (List Nat)) (k : Nat) (st : St) : Option St :=
  match all[k]? with
  | some o => match evD E callF all (confSlots all anc k) o st.tm st.hp with
    | some (v, hp) => some ⟨putAV st.tm o.dst v, hp⟩
    | none => none
  | none => none
def evListD (E : Env) (callF : CallF) (all : List Oper) (anc : List (List Nat)) : List Nat → St → Option St
  | [], st => some st
  | k :: ks, st => match stepD E callF all anc k st with
    | some st' => evListD E callF all anc ks st'
    | none => none
/-- The variables that the region makes, ahead of all else. -/
def hoist (E : Env) : List Oper → St → Option St
  | [], st => some st
  | o :: os, st => if isAlloc o then
      match o.op, o.dst with
      | .alloc t, some d => match E.ti t with
        | some ti => if ti.zero.fits ti.size = true ∧ 0 < ti.size ∧ d < st.tm.length then hoist E os ⟨st.tm.set d (.mp st.hp.length 1 0 0), st.hp ++ [.row [ti.zero] ti.size 0 0]⟩ else none
        | none => none
      | _, _ => none
    else hoist E os st
def others (ops : List Oper) : List Nat := (List.range ops.length).filter fun k => match ops[k]? with
  | some o => !isAlloc o
  | none => false
def evRegion (E : Env) (callF : CallF) (ops : Array Oper) (draw : Bool) (st : St) : Option St :=
  if draw then
    if okRegion E ops then
      match hoist E ops.toList st with
      | some st1 => evListD E callF ops.toList (ancs ops.toList) (others ops.toList) st1
      | none => none
    else none
  else evOps E callF ops.toList ops.toList st

/-- Ahead of a loop: a nil slice that the loop appends to becomes an own row without elements: in slot d, or (d from 1000 on) in cell d / 1000 - 1 of the variable that slot d % 1000 leads to. -/
def prepOwn : List (Nat × Nat) → St → St
  | [], st => st
  | (d, sz) :: r, st =>
    if d < 1000 then match st.tm[d]? with
      | some .nils => prepOwn r ⟨st.tm.set d (.ms st.hp.length 0 0 0), st.hp ++ [.row [] sz 0 0]⟩
      | _ => prepOwn r st
    else match st.tm[d % 1000]? with
      | some (.mp b _ i o) => match st.hp[b]? with
        | some (.row es n wg com) => match es[i]? with
          | some e => match e.cells[o + (d / 1000 - 1)]? with
            | some .nils => prepOwn r ⟨st.tm, (st.hp ++ [HB.row [] sz 0 0]).set b (HB.row (es.set i (writeCells e (o + (d / 1000 - 1)) [.ms st.hp.length 0 0 0])) n wg com)⟩
            | _ => prepOwn r st
          | none => prepOwn r st
        | _ => prepOwn r st
      | _ => prepOwn r st
def keepLive (live : List Nat) : Nat → List AV → List AV
  | _, [] => []
  | i, v :: vs => (if live.contains i then v else .undef) :: keepLive live (i + 1) vs
/-- At the head of each round: what is read no more is forgotten. -/
def normSt (live : List Nat) (n : Nat) (st : St) : St :=
  ⟨keepLive live 0 st.tm, letGo n (keepLive live 0 st.tm) st.hp⟩

abbrev Iter := (St → Option (X × St)) → (St → St) → St → Option (X × St)
def iter : Nat → Iter
  | 0, _, _, _ => none
  | n + 1, g, nm, st => match g (nm st) with
    | some (.normal, st') => iter n g nm st'
    | r => r

def evCode (E : Env) (callF : CallF) (it : Iter) (f : FuncId) : Nat → Code → St → Option (X × St)
  | _, .skip, st => some (.normal, st)
  | _, .region _ ops draw, st => match evRegion E callF ops draw st with
    | some st' => some (.normal, st')
    | none => none
  | cur, .seq a b, st => match evCode E callF it f cur a st with
    | some (.normal, st') => evCode E callF it f cur b st'
    | r => r
  | cur, .cond c a b, st => match opnd E st.tm c with
    | .bool true => evCode E callF it f cur a st
    | .bool false => evCode E callF it f cur b st
    | _ => none
  | _, .block id body, st => match evCode E callF it f id body st with
    | some (.exit id', st') => if id' = id then some (.normal, st') else some (.exit id', st')
    | r => r
  | cur, .loop body, st => match E.ann f cur with
    | some an => it (evCode E callF it f cur body) (normSt an.live (prepOwn an.own st).hp.length) (prepOwn an.own st)
    | none => it (evCode E callF it f cur body) id st
  | _, .exit id, st => some (.exit id, st)
  | _, .label _, st => some (.normal, st)
  | _, .ret, st => some (.ret, st)
  | _, _, _ => none

def resultAV (E : Env) (st : St) : ResultVar → Option AV
  | .tmp t => some (st.tm.getD t .undef)
  | .cell a t => loadAV E st.hp t (st.tm.getD a .undef)
def resultsAV (E : Env) (fd : Func) (st : St) : Option AV :=
  match mapO (resultAV E st) fd.results.toList with
  | some [v] => some v
  | some vs => some (.tup vs)
  | none => none
def bodyF (E : Env) (callF : CallF) (it : Iter) (f : FuncId) (args : List AV) (hp : Heap) : Option (AV × Heap) :=
  match E.fn f with
  | some fd => match fd.body with
    | some c => match evCode E callF it f 0 c ⟨args ++ List.replicate (fd.ntmps - args.length) (.tup []), hp⟩ with
      | some (.normal, st) | some (.ret, st) => (resultsAV E fd st).map (·, st.hp)
      | _ => none
    | none => none
  | none => none
def evFn (E : Env) : Nat → CallF
  | 0, _, _, _ => none
  | n + 1, f, args, hp => bodyF E (evFn E n) (iter n) f args hp
end Go.EV
/-
  What an evaluator's value says of a machine's value, and what keeps it true.
-/
set_option linter.unusedSimpArgs false
set_option linter.unusedVariables false
namespace Go.EV
open Go.RowKit

abbrev Zone := Nat → Nat → Prop

/-- A value without own memory, read in world w; every cell that is read lies in Z. -/
inductive PRel (Z : Zone) (w : World) : AV → Value → Prop
  | undef (v : Value) : PRel Z w .undef v
  | int (k : IntKind) (n : Int) : PRel Z w (.int k n) (.int k n)
  | bool (b : Bool) : PRel Z w (.bool b) (.bool b)
  | str (s : List UInt8) : PRel Z w (.str s) (.string ⟨s.toArray⟩)
  | agg (cs : List AV) (vs : Array Value) (hl : cs.length = vs.size) (hr : ∀ i, i < cs.length → PRel Z w (cs.getD i .undef) (vs.getD i Go.undef)) : PRel Z w (.agg cs) (.agg vs)
  | tup (cs : List AV) (vs : Array Value) (hl : cs.length = vs.size) (hr : ∀ i, i < cs.length → PRel Z w (cs.getD i .undef) (vs.getD i Go.undef)) : PRel Z w (.tup cs) (.tuple vs)
  | sl (es : List AV) (sz c off cap : Nat) (V : Nat → Nat → Value) (hc : es.length ≤ cap) (hz : ∀ i, i < es.length → (es.getD i .undef).fits sz = true)
      (hr : ∀ i o, i < es.length → o < sz → w.cell? ⟨c, off + (i * sz + o), none⟩ = some (V i o) ∧ Z c (off + (i * sz + o)))
      (hv : ∀ i o, i < es.length → o < sz → PRel Z w ((es.getD i .undef).cells.getD o .undef) (V i o)) : PRel Z w (.sl es) (.slice (some ⟨c, off, none⟩) es.length cap)
  | sl0 (a : Option Addr) (cap : Nat) : PRel Z w (.sl []) (.slice a 0 cap)
  | ip (es : List AV) (i o sz c off : Nat) (V : Nat → Nat → Value) (hz : ∀ i, i < es.length → (es.getD i .undef).fits sz = true)
      (hr : ∀ i o, i < es.length → o < sz → w.cell? ⟨c, off + (i * sz + o), none⟩ = some (V i o) ∧ Z c (off + (i * sz + o)))
      (hv : ∀ i o, i < es.length → o < sz → PRel Z w ((es.getD i .undef).cells.getD o .undef) (V i o)) : PRel Z w (.ip es i o) (.pointer (some ⟨c, off + (i * sz + o), none⟩))
  | nils : PRel Z w .nils (.slice none 0 0)
  | z0 (a : Option Addr) : PRel Z w .z0 (.slice a 0 0)
  | nilp : PRel Z w .nilp (.pointer none)
  | nilf : PRel Z w .nilf .nilFunc
  | nili : PRel Z w .nili .nilIface
  | fn (f : FuncId) (cs : List AV) (vs : Array Value) (hl : cs.length = vs.size) (hr : ∀ i, i < cs.length → PRel Z w (cs.getD i .undef) (vs.getD i Go.undef)) : PRel Z w (.fn f cs) (.func (.func f) #[] vs)
  | iface (t : TypeId) (a : AV) (v : Value) (h : PRel Z w a v) : PRel Z w (.iface t a) (.iface t v)

/-- Where own rows lie: for a row and a length that it had, the block (none: no block yet) and the capacity; and the cells of an element. 'pend': a variable that the evaluator has made ahead of the machine, with its zero value. -/
structure Ghost where
  row : Nat → Nat → Option (Option Nat × Nat)
  sz : Nat → Nat
  pend : Nat → Option (AV × Nat)
structure Ghost.le (G G' : Ghost) : Prop where
  row : ∀ b g r, G.row b g = some r → G'.row b g = some r
  sz : ∀ b g r, G.row b g = some r → G'.sz b = G.sz b
  pend : ∀ b z, G.pend b = some z → G'.pend b = some z
theorem Ghost.le.refl (G : Ghost) : G.le G := ⟨fun _ _ _ h => h, fun _ _ _ _ => rfl, fun _ _ h => h⟩
theorem Ghost.le.trans {A B C : Ghost} (h : A.le B) (k : B.le C) : A.le C :=
  ⟨fun b g r e => k.row b g r (h.row b g r e), fun b g r e => (k.sz b g r (h.row b g r e)).trans (h.sz b g r e), fun b z e => k.pend b z (h.pend b z e)⟩
def Ghost.empty : Ghost := ⟨fun _ _ => none, fun _ => 0, fun _ => none⟩

inductive Rel (Z : Zone) (G : Ghost) (w : World) : AV → Value → Prop
  | pure {a : AV} {v : Value} (h : PRel Z w a v) : Rel Z G w a v
  | agg (cs : List AV) (vs : Array Value) (hl : cs.length = vs.size) (hr : ∀ i, i < cs.length → Rel Z G w (cs.getD i .undef) (vs.getD i Go.undef)) : Rel Z G w (.agg cs) (.agg vs)
  | tup (cs : List AV) (vs : Array Value) (hl : cs.length = vs.size) (hr : ∀ i, i < cs.length → Rel Z G w (cs.getD i .undef) (vs.getD i Go.undef)) : Rel Z G w (.tup cs) (.tuple vs)
  | fn (f : FuncId) (cs : List AV) (vs : Array Value) (hl : cs.length = vs.size) (hr : ∀ i, i < cs.length → Rel Z G w (cs.getD i .undef) (vs.getD i Go.undef)) : Rel Z G w (.fn f cs) (.func (.func f) #[] vs)
  | iface (t : TypeId) (a : AV) (v : Value) (h : Rel Z G w a v) : Rel Z G w (.iface t a) (.iface t v)
  | ms (b g off len : Nat) (oc : Option Nat) (cap : Nat) (a : Option Addr) (hg : G.row b g = some (oc, cap)) (h1 : off + len ≤ g) (h2 : g ≤ cap)
      (ha : off < cap → ∃ c, oc = some c ∧ a = some ⟨c, off * G.sz b, none⟩) (hn : g = 0 → oc = none → a = none) : Rel Z G w (.ms b g off len) (.slice a len (cap - off))
  | mp (b g i o c cap : Nat) (hg : G.row b g = some (some c, cap)) (hi : i < g) : Rel Z G w (.mp b g i o) (.pointer (some ⟨c, i * G.sz b + o, none⟩))
  | it (b c cap : Nat) (hg : G.row b 0 = some (some c, cap)) : Rel Z G w (.it b) (.pointer (some ⟨c, 0, none⟩))

theorem PRel.mono {Z Z' : Zone} {w w' : World} (hz : ∀ c j, Z c j → Z' c j) (hw : ∀ c j, Z c j → w'.cell? ⟨c, j, none⟩ = w.cell? ⟨c, j, none⟩)
    {a : AV} {v : Value} (h : PRel Z w a v) : PRel Z' w' a v := by
  induction h with
  | undef v => exact .undef v
  | int k n => exact .int k n
  | bool b => exact .bool b
  | str s => exact .str s
  | agg cs vs hl _ ih => exact .agg cs vs hl ih
  | tup cs vs hl _ ih => exact .tup cs vs hl ih
  | sl es sz c off cap V hc hzz hr _ ih =>
    exact .sl es sz c off cap V hc hzz (fun i o hi ho => ⟨(hw _ _ (hr i o hi ho).2).trans (hr i o hi ho).1, hz _ _ (hr i o hi ho).2⟩) ih
  | sl0 a cap => exact .sl0 a cap
  | ip es i o sz c off V hzz hr _ ih =>
    exact .ip es i o sz c off V hzz (fun i o hi ho => ⟨(hw _ _ (hr i o hi ho).2).trans (hr i o hi ho).1, hz _ _ (hr i o hi ho).2⟩) ih
  | nils => exact .nils
  | z0 a => exact .z0 a
  | nilp => exact .nilp
  | nilf => exact .nilf
  | nili => exact .nili
  | fn f cs vs hl _ ih => exact .fn f cs vs hl ih
  | iface t a v _ ih => exact .iface t a v ih

theorem normL_length : ∀ l : List AV, (AV.norm.normL l).length = l.length
  | [] => rfl
  | v :: l => by simp [AV.norm.normL, normL_length l]
theorem normL_getD : ∀ (l : List AV) (i : Nat), (AV.norm.normL l).getD i .undef = (l.getD i .undef).norm
  | [], i => by simp [AV.norm.normL, AV.norm]
  | v :: l, 0 => by simp [AV.norm.normL]
  | v :: l, i + 1 => by simpa [AV.norm.normL] using normL_getD l i
theorem norm_one (a : AV) : a.norm.one = a.one := by cases a <;> rfl
theorem norm_cells (a : AV) : a.norm.cells = AV.norm.normL a.cells := by cases a <;> rfl
theorem normL_all : ∀ l : List AV, (AV.norm.normL l).all AV.one = l.all AV.one
  | [] => rfl
  | v :: l => by simp [AV.norm.normL, norm_one, normL_all l]
theorem norm_fits (n : Nat) (a : AV) : a.norm.fits n = a.fits n := by
  unfold AV.fits
  rw [norm_cells, normL_length, normL_all]
theorem PRel.norm {Z : Zone} {w : World} {a : AV} {v : Value} (h : PRel Z w a v) : PRel Z w a.norm v := by
  induction h with
  | undef v => exact .undef v
  | int k n => exact .int k n
  | bool b => exact .bool b
  | str s => exact .str s
  | agg cs vs hl _ ih => exact .agg _ vs (by rw [normL_length]; exact hl) fun i hi => by rw [normL_getD]; exact ih i (by rwa [normL_length] at hi)
  | tup cs vs hl _ ih => exact .tup _ vs (by rw [normL_length]; exact hl) fun i hi => by rw [normL_getD]; exact ih i (by rwa [normL_length] at hi)
  | sl es sz c off cap V hc hz hr _ ih =>
    have := PRel.sl (Z := Z) (w := w) (AV.norm.normL es) sz c off cap V (by rw [normL_length]; exact hc)
      (fun i hi => by rw [normL_length] at hi; rw [normL_getD, norm_fits]; exact hz i hi) (fun i o hi ho => by rw [normL_length] at hi; exact hr i o hi ho)
      (fun i o hi ho => by rw [normL_length] at hi; rw [normL_getD, norm_cells, normL_getD]; exact ih i o hi ho)
    rw [normL_length] at this
    exact this
  | sl0 a cap => exact .sl0 a cap
  | ip es i o sz c off V hz hr _ ih =>
    exact PRel.ip (Z := Z) (w := w) (AV.norm.normL es) i o sz c off V
      (fun i hi => by rw [normL_length] at hi; rw [normL_getD, norm_fits]; exact hz i hi) (fun i o hi ho => by rw [normL_length] at hi; exact hr i o hi ho)
      (fun i o hi ho => by rw [normL_length] at hi; rw [normL_getD, norm_cells, normL_getD]; exact ih i o hi ho)
  | nils => exact .sl0 none 0
  | z0 a => exact .sl0 a 0
  | nilp => exact .nilp
  | nilf => exact .nilf
  | nili => exact .nili
  | fn f cs vs hl _ ih => exact .fn f _ vs (by rw [normL_length]; exact hl) fun i hi => by rw [normL_getD]; exact ih i (by rwa [normL_length] at hi)
  | iface t a v _ ih => exact .iface t _ v ih

theorem Rel.mono {Z Z' : Zone} {G G' : Ghost} {w w' : World} (hz : ∀ c j, Z c j → Z' c j) (hg : G.le G') (hw : ∀ c j, Z c j → w'.cell? ⟨c, j, none⟩ = w.cell? ⟨c, j, none⟩)
    {a : AV} {v : Value} (h : Rel Z G w a v) : Rel Z' G' w' a v := by
  induction h with
  | pure h => exact .pure (h.mono hz hw)
  | agg cs vs hl _ ih => exact .agg cs vs hl ih
  | tup cs vs hl _ ih => exact .tup cs vs hl ih
  | fn f cs vs hl _ ih => exact .fn f cs vs hl ih
  | iface t a v _ ih => exact .iface t a v ih
  | ms b g off len oc cap a h0 h1 h2 ha hn => exact .ms b g off len oc cap a (hg.row _ _ _ h0) h1 h2 (by rw [hg.sz _ _ _ h0]; exact ha) hn
  | mp b g i o c cap h0 hi => rw [← hg.sz _ _ _ h0]; exact .mp b g i o c cap (hg.row _ _ _ h0) hi
  | it b c cap h0 => exact .it b c cap (hg.row _ _ _ h0)

theorem allPure_getD : ∀ {cs : List AV}, AV.isPure.allPure cs = true → ∀ i, (cs.getD i .undef).isPure = true
  | [], _, i => by simp [AV.isPure]
  | v :: vs, h, i => by
    simp only [AV.isPure.allPure, Bool.and_eq_true] at h
    cases i with
    | zero => simpa using h.1
    | succ i => simpa using allPure_getD h.2 i

theorem Rel.toPure {Z : Zone} {G : Ghost} {w : World} {a : AV} {v : Value} (h : Rel Z G w a v) (hp : a.isPure = true) : PRel Z w a v := by
  induction h with
  | pure h => exact h
  | agg cs vs hl _ ih => exact .agg cs vs hl fun i hi => ih i hi (allPure_getD (by simpa [AV.isPure] using hp) i)
  | tup cs vs hl _ ih => exact .tup cs vs hl fun i hi => ih i hi (allPure_getD (by simpa [AV.isPure] using hp) i)
  | fn f cs vs hl _ ih => exact .fn f cs vs hl fun i hi => ih i hi (allPure_getD (by simpa [AV.isPure] using hp) i)
  | iface t a v _ ih => exact .iface t a v (ih (by simpa [AV.isPure] using hp))
  | ms => simp [AV.isPure] at hp
  | mp => simp [AV.isPure] at hp
  | it => simp [AV.isPure] at hp

theorem allScalar_getD : ∀ {cs : List AV}, AV.scalar.allScalar cs = true → ∀ i, i < cs.length → (cs.getD i .undef).scalar = true
  | [], _, i, hi => by simp at hi
  | v :: vs, h, i, hi => by
    simp only [AV.scalar.allScalar, Bool.and_eq_true] at h
    cases i with
    | zero => simpa using h.1
    | succ i => simpa using allScalar_getD h.2 i (by simpa using hi)
/-- What leads to no memory is read in every world. -/
theorem PRel.ofScalar {Z Z' : Zone} {w w' : World} {a : AV} {v : Value} (h : PRel Z w a v) (hs : a.scalar = true) : PRel Z' w' a v := by
  induction h with
  | undef v => exact .undef v
  | int k n => exact .int k n
  | bool b => exact .bool b
  | str s => exact .str s
  | agg cs vs hl _ ih => exact .agg cs vs hl fun i hi => ih i hi (allScalar_getD (by simpa [AV.scalar] using hs) i hi)
  | tup cs vs hl _ ih => exact .tup cs vs hl fun i hi => ih i hi (allScalar_getD (by simpa [AV.scalar] using hs) i hi)
  | nils => exact .nils
  | nilp => exact .nilp
  | nilf => exact .nilf
  | nili => exact .nili
  | iface t a v _ ih => exact .iface t a v (ih (by simpa [AV.scalar] using hs))
  | sl0 | sl | ip | fn | z0 => simp [AV.scalar] at hs

theorem constAV.cells_rel {Z : Zone} {w : World} : ∀ (l : List Value), (constAV.cellsAV l).length = l.length ∧ ∀ i, i < l.length → PRel Z w ((constAV.cellsAV l).getD i .undef) (l.getD i Go.undef)
  | [] => by simp [constAV.cellsAV]
  | v :: r => by
    have ih := constAV.cells_rel (Z := Z) (w := w) r
    have key : ∀ a, PRel Z w a v → (a :: constAV.cellsAV r).length = (v :: r).length ∧ ∀ i, i < (v :: r).length → PRel Z w ((a :: constAV.cellsAV r).getD i .undef) ((v :: r).getD i Go.undef) := by
      intro a ha
      refine ⟨by simp [ih.1], fun i hi => ?_⟩
      cases i with
      | zero => simpa using ha
      | succ i => simpa using ih.2 i (by simpa using hi)
    unfold constAV.cellsAV
    split <;> first
      | (injections; subst_vars; exact key _ (.int _ _))
      | (injections; subst_vars; exact key _ (.bool _))
      | (injections; subst_vars; rename_i s _; exact key _ (by have := PRel.str (Z := Z) (w := w) s.data.toList; simpa using this))
      | (injections; subst_vars; exact key _ .nili)
      | (injections; subst_vars; exact key _ .nilf)
      | (injections; subst_vars; exact key _ .nilp)
      | (injections; subst_vars; exact key _ .nils)
      | (injections; subst_vars; exact key _ (.undef _))
      | skip
    all_goals simp_all

theorem constAV_rel {Z : Zone} {w : World} (v : Value) : PRel Z w (constAV v) v := by
  unfold constAV
  split
  · exact .int _ _
  · exact .bool _
  · rename_i s; have := PRel.str (Z := Z) (w := w) s.data.toList; simpa using this
  · exact .nili
  · exact .nilf
  · exact .nilp
  · exact .nils
  · rename_i cs
    have h := constAV.cells_rel (Z := Z) (w := w) cs.toList
    refine .agg _ _ (by simp [h.1]) fun i hi => ?_
    have := h.2 i (by simpa [h.1] using hi)
    simpa [Array.getD_eq_getD_getElem?, List.getD_eq_getElem?_getD] using this
  · exact .undef _

/-- Own memory and the machine's. -/
structure HRel (base : Nat) (Z : Zone) (G : Ghost) (hp : Heap) (w : World) : Prop where
  lo : base ≤ w.heap.size
  zone : ∀ c j, Z c j → c < w.heap.size
  dom : ∀ b g r, G.row b g = some r → b < hp.length
  row : ∀ b es sz wg com, hp[b]? = some (.row es sz wg com) → (∀ i, i < es.length → (es.getD i .undef).fits sz = true) ∧
    ∀ g oc cap, G.row b g = some (oc, cap) → G.sz b = sz ∧ g ≤ es.length ∧ g ≤ cap ∧ (oc = none → cap = 0) ∧
      ∀ c, oc = some c → base ≤ c ∧ (∀ j, Z c j → j < com * sz) ∧ ∃ cs t, w.heap[c]? = some (.cells cs t (0, 0)) ∧ cs.size = cap * sz ∧
        (wg ≤ g → ∀ i o, i < g → o < sz → Rel Z G w ((es.getD i .undef).cells.getD o .undef) (cs.getD (i * sz + o) Go.undef))
  sit : ∀ b s pos, hp[b]? = some (.sit s pos) → ∀ g oc cap, G.row b g = some (oc, cap) → g = 0 ∧ ∃ c, oc = some c ∧ base ≤ c ∧ w.heap[c]? = some (.stringIter ⟨s.toArray⟩ pos)
  excl : ∀ b b' g g' c cap cap', G.row b g = some (some c, cap) → G.row b' g' = some (some c, cap') → b = b'
  pend : ∀ (b : Nat) (z : AV) (sz : Nat), G.pend b = some (z, sz) → hp[b]? = some (HB.row [z] sz 0 0) ∧ ∀ g, G.row b g = none
  wgle : ∀ (b : Nat) (es : List AV) (sz wg com : Nat), hp[b]? = some (HB.row es sz wg com) → wg ≤ es.length

/-- What a piece of the run may turn. -/
structure Ext (base : Nat) (Z : Zone) (G : Ghost) (w : World) (Z' : Zone) (G' : Ghost) (w' : World) : Prop where
  zsub : ∀ c j, Z c j → Z' c j
  gle : G.le G'
  below : Below base w w'
  keep : ∀ c j, Z c j → w'.cell? ⟨c, j, none⟩ = w.cell? ⟨c, j, none⟩
  znew : ∀ c j, Z' c j → Z c j ∨ base ≤ c
theorem Ext.refl (base : Nat) (Z : Zone) (G : Ghost) (w : World) : Ext base Z G w Z G w :=
  ⟨fun _ _ h => h, .refl G, .refl _ _, fun _ _ _ => rfl, fun _ _ h => .inl h⟩
theorem Ext.trans {base : Nat} {Z Z' Z'' : Zone} {G G' G'' : Ghost} {w w' w'' : World} (h : Ext base Z G w Z' G' w') (k : Ext base Z' G' w' Z'' G'' w'') :
    Ext base Z G w Z'' G'' w'' :=
  ⟨fun c j e => k.zsub c j (h.zsub c j e), h.gle.trans k.gle, h.below.trans k.below, fun c j e => (k.keep c j (h.zsub c j e)).trans (h.keep c j e),
   fun c j e => (k.znew c j e).elim (h.znew c j) .inr⟩
theorem Rel.ext {base : Nat} {Z Z' : Zone} {G G' : Ghost} {w w' : World} (h : Ext base Z G w Z' G' w') {a : AV} {v : Value} (r : Rel Z G w a v) : Rel Z' G' w' a v :=
  r.mono h.zsub h.gle h.keep

/-- A frame's slots. -/
structure TRel (Z : Zone) (G : Ghost) (w : World) (D : Nat → Prop) (tm : List AV) (tmps : Array Value) : Prop where
  len : tm.length = tmps.size
  rel : ∀ i, i < tm.length → ¬ D i → Rel Z G w (tm.getD i .undef) (tmps.getD i Go.undef)
theorem TRel.ext {base : Nat} {Z Z' : Zone} {G G' : Ghost} {w w' : World} {D : Nat → Prop} (h : Ext base Z G w Z' G' w') {tm : List AV} {tmps : Array Value} (r : TRel Z G w D tm tmps) :
    TRel Z' G' w' D tm tmps := ⟨r.len, fun i hi hd => (r.rel i hi hd).ext h⟩
theorem TRel.get {Z : Zone} {G : Ghost} {w : World} {D : Nat → Prop} {tm : List AV} {tmps : Array Value} (r : TRel Z G w D tm tmps) (i : Nat) (hd : ¬ D i) :
    Rel Z G w (tm.getD i .undef) (tmps.getD i Go.undef) := by
  by_cases hi : i < tm.length
  · exact r.rel i hi hd
  · have : tm.getD i .undef = .undef := by simp [List.getD_eq_getElem?_getD, List.getElem?_eq_none (Nat.le_of_not_lt hi)]
    rw [this]; exact .pure (.undef _)

theorem Rel.oneCell {Z : Zone} {G : Ghost} {w : World} {a : AV} {v : Value} (h : Rel Z G w a v) (ho : a.one = true) : v.oneCell' = true := by
  cases h with
  | pure h => cases h <;> simp_all [AV.one, Value.oneCell']
  | _ => simp_all [AV.one, Value.oneCell']
theorem Value.cells_one {v : Value} (h : v.oneCell' = true) : v.cells = #[v] := by cases v <;> simp_all [Value.oneCell', Value.cells]
theorem AV.cells_one {a : AV} (h : a.one = true) : a.cells = [a] := by cases a <;> simp_all [AV.one, AV.cells]

/-- The cells of a value that fits. -/
theorem Rel.cellsOf {Z : Zone} {G : Ghost} {w : World} {a : AV} {v : Value} (h : Rel Z G w a v) {n : Nat} (hf : a.fits n = true) :
    v.cells.size = n ∧ (∀ i, i < n → Rel Z G w (a.cells.getD i .undef) (v.cells.getD i Go.undef)) ∧ ∀ x ∈ v.cells.toList, x.oneCell' = true := by
  simp only [AV.fits, Bool.and_eq_true, beq_iff_eq, List.all_eq_true] at hf
  obtain ⟨hl, ho⟩ := hf
  have key : ∀ (cs : List AV) (vs : Array Value), a.cells = cs → v.cells = vs → cs.length = vs.size → (∀ i, i < cs.length → Rel Z G w (cs.getD i .undef) (vs.getD i Go.undef)) →
      v.cells.size = n ∧ (∀ i, i < n → Rel Z G w (a.cells.getD i .undef) (v.cells.getD i Go.undef)) ∧ ∀ x ∈ v.cells.toList, x.oneCell' = true := by
    rintro cs vs hcs hvs hlen hr
    subst hcs
    subst hvs
    refine ⟨by omega, fun i hi => hr i (by omega), fun x hx => ?_⟩
    obtain ⟨i, hi, rfl⟩ := List.mem_iff_getElem.1 hx
    have hi' : i < a.cells.length := by rw [hlen]; simpa using hi
    have h1 := hr i hi'
    have h2 : a.cells.getD i .undef = a.cells[i] := by simp [List.getD_eq_getElem?_getD, hi']
    have h3 : v.cells.getD i Go.undef = v.cells.toList[i] := by
      have : i < v.cells.size := by omega
      simp [Array.getD, this]
    rw [h2, h3] at h1
    exact h1.oneCell (ho _ (List.getElem_mem hi'))
  have single : a.cells = [a] → v.cells = #[v] → v.cells.size = n ∧ (∀ i, i < n → Rel Z G w (a.cells.getD i .undef) (v.cells.getD i Go.undef)) ∧ ∀ x ∈ v.cells.toList, x.oneCell' = true := by
    intro h1 h2
    refine key [a] #[v] h1 h2 rfl fun i hi => ?_
    have : i = 0 := by simp at hi; omega
    subst this
    simpa using h
  cases h with
  | agg cs vs hl' hr => exact key cs vs rfl rfl hl' hr
  | tup => have := ho _ (List.mem_singleton.2 rfl); simp [AV.one] at this
  | pure hp =>
    cases hp with
    | agg cs vs hl' hr => exact key cs vs rfl rfl hl' fun i hi => .pure (hr i hi)
    | tup => have := ho _ (List.mem_singleton.2 rfl); simp [AV.one] at this
    | undef => have := ho _ (List.mem_singleton.2 rfl); simp [AV.one] at this
    | _ => exact single rfl rfl
  | _ => exact single rfl rfl

theorem fits_zero_undef {n : Nat} {a : AV} (h : a.fits n = true) : ∀ i, i < n → (a.cells.getD i .undef).one = true := by
  intro i hi
  simp only [AV.fits, Bool.and_eq_true, beq_iff_eq, List.all_eq_true] at h
  have hi' : i < a.cells.length := by omega
  rw [show a.cells.getD i .undef = a.cells[i] by simp [List.getD_eq_getElem?_getD, hi']]
  exact h.2 _ (List.getElem_mem hi')
end Go.EV
/-
  Each operation of the model does what the evaluator says: operations that leave memory alone.
-/
set_option linter.unusedSimpArgs false
set_option linter.unusedVariables false
namespace Go.EV
open Go.RowKit

def isAggD : TypeDesc → Bool
  | .struct _ | .array _ _ => true
  | _ => false
structure TiOk (P : Program) (t : TypeId) (ti : TI) : Prop where
  desc : P.underlying t = some ti.desc
  agg : ti.agg = isAggD ti.desc
  info : ∃ inf, P.info? t = some inf ∧ inf.size = ti.size ∧ inf.bytes = ti.bytes ∧ ∃ z, inf.zero = some z ∧ ∀ Z w, PRel Z w ti.zero z

variable {E : Env} {P : Program}

theorem run_isAgg {t : TypeId} {ti : TI} (h : TiOk P t ti) (w : World) : (isAgg t).run P w = .ok ti.agg w := by
  rw [h.agg]
  unfold isAgg isAggD
  simp only [Sem.run_bind, run_underlying h.desc, Result.andThen_ok]
  split <;> simp_all
theorem run_sizeOf' {t : TypeId} {ti : TI} (h : TiOk P t ti) (w : World) : (sizeOf t).run P w = .ok ti.size w := by
  obtain ⟨inf, hi, hs, _⟩ := h.info
  simp [sizeOf, typeInfo, hi, hs]

theorem addr_add (c o n : Nat) : (⟨c, o, none⟩ : Addr).add n = ⟨c, o + n, none⟩ := by unfold Addr.add; split <;> simp_all

/-- Cells of one element, read as a value of a type. -/
theorem readCells_ok {Z : Zone} {G : Ghost} {w : World} {t : TypeId} {ti : TI} (ht : TiOk P t ti) {e r : AV} {sz o c b : Nat} {V : Nat → Value}
    (hf : e.cells.length = sz) (hr : ∀ o, o < sz → w.cell? ⟨c, b + o, none⟩ = some (V o)) (hv : ∀ o, o < sz → Rel Z G w (e.cells.getD o .undef) (V o))
    (h : readCells ti e.cells o = some r) : ∃ x, (loadVar t ⟨c, b + o, none⟩).run P w = .ok x w ∧ Rel Z G w r x := by
  unfold readCells at h
  unfold loadVar
  split at h
  · rename_i hagg
    split at h
    · rename_i hle
      injection h with h
      subst h
      have hl := run_loadCells (P := P) w ⟨c, b + o, none⟩ ti.size (fun j => V (o + j)) (fun j hj => by rw [addr_add, Nat.add_assoc]; exact hr _ (by omega))
      refine ⟨.agg ((List.range ti.size).map fun j => V (o + j)).toArray, by simp [run_isAgg ht, run_sizeOf' ht, hagg, hl], .agg _ _ (by simp; omega) fun i hi => ?_⟩
      simp only [List.length_take, List.length_drop] at hi
      have h1 : ((e.cells.drop o).take ti.size).getD i .undef = e.cells.getD (o + i) .undef := by
        simp only [List.getD_eq_getElem?_getD, List.getElem?_take, List.getElem?_drop]
        rw [if_pos (by omega)]
      have h2 : (((List.range ti.size).map fun j => V (o + j)).toArray).getD i Go.undef = V (o + i) := by
        have : i < ti.size := by omega
        simp [Array.getD, this]
      rw [h1, h2]
      exact hv _ (by omega)
    · cases h
  · rename_i hagg
    have ho : o < sz := by
      rcases Nat.lt_or_ge o e.cells.length with h' | h'
      · omega
      · rw [List.getElem?_eq_none h'] at h; cases h
    refine ⟨V o, by simp [run_isAgg ht, hagg, hr o ho], ?_⟩
    have := hv o ho
    rw [List.getD_eq_getElem?_getD, h] at this
    simpa using this

theorem Array.getD_of_lt {α : Type} (a : Array α) (i : Nat) (d : α) (h : i < a.size) : a[i]? = some (a.getD i d) := by simp [Array.getD, h]

theorem idx_lt {i g o sz cap : Nat} (hi : i < g) (hg : g ≤ cap) (ho : o < sz) : i * sz + o < cap * sz := by
  have : (i + 1) * sz ≤ cap * sz := Nat.mul_le_mul_right _ (by omega)
  rw [Nat.add_mul] at this
  omega

/-- What an address leads to: the cells of the element. -/
theorem row_cells {base : Nat} {Z : Zone} {G : Ghost} {hp : Heap} {w : World} (H : HRel base Z G hp w) {b g c cap i : Nat} {es : List AV} {sz wg com : Nat} (hb : hp[b]? = some (.row es sz wg com))
    (hg : G.row b g = some (some c, cap)) (hw : wg ≤ g) (hi : i < g) :
    G.sz b = sz ∧ i < es.length ∧ (es.getD i .undef).fits sz = true ∧ base ≤ c ∧ (∀ j, Z c j → j < com * sz) ∧ ∃ cs t, w.heap[c]? = some (.cells cs t (0, 0)) ∧ cs.size = cap * sz ∧
      (∀ o, o < sz → w.cell? ⟨c, i * sz + o, none⟩ = some (cs.getD (i * sz + o) Go.undef)) ∧ ∀ o, o < sz → Rel Z G w ((es.getD i .undef).cells.getD o .undef) (cs.getD (i * sz + o) Go.undef) := by
  obtain ⟨hf, hrow⟩ := H.row b es sz wg com hb
  obtain ⟨hsz, hge, hgc, _, hc⟩ := hrow g _ cap hg
  obtain ⟨hbase, hz, cs, t, hh, hs, hr⟩ := hc c rfl
  refine ⟨hsz, by omega, hf i (by omega), hbase, hz, cs, t, hh, hs, fun o ho => ?_, fun o ho => hr hw i o hi ho⟩
  rw [cell_of_row w c _ cs t (0, 0) hh]
  exact Array.getD_of_lt cs _ _ (by rw [hs]; exact idx_lt hi hgc ho)

theorem getD_of_get {es : List AV} {i : Nat} {e : AV} (h : es[i]? = some e) : es.getD i .undef = e ∧ i < es.length := by
  refine ⟨by simp [List.getD_eq_getElem?_getD, h], ?_⟩
  rcases Nat.lt_or_ge i es.length with h' | h'
  · exact h'
  · rw [List.getElem?_eq_none h'] at h; cases h

theorem load_ok {base : Nat} {Z : Zone} {G : Ghost} {hp : Heap} {w : World} (H : HRel base Z G hp w) (hE : ∀ t ti, E.ti t = some ti → TiOk P t ti) {t : TypeId} {a r : AV} {v : Value}
    (ha : Rel Z G w a v) (h : loadAV E hp t a = some r) : ∃ x, (Instr.loadAt t v).run P w = .ok x w ∧ Rel Z G w r x := by
  unfold loadAV at h
  split at h
  · rename_i ti es i o hti
    split at h
    · rename_i e he
      obtain ⟨hed, hil⟩ := getD_of_get he
      cases ha with
      | pure ha =>
        cases ha with
        | ip _ _ _ sz c off V hz hr hv =>
          have hf := hz i hil
          rw [hed] at hf
          simp only [AV.fits, Bool.and_eq_true, beq_iff_eq] at hf
          have := readCells_ok (P := P) (Z := Z) (G := G) (w := w) (hE t ti hti) (e := e) (r := r) (sz := sz) (o := o) (c := c) (b := off + i * sz) (V := V i) hf.1
            (fun o ho => by rw [Nat.add_assoc]; exact (hr i o hil ho).1) (fun o ho => by have := hv i o hil ho; rw [hed] at this; exact .pure this) h
          rw [Nat.add_assoc] at this
          simpa [Instr.loadAt, Instr.sureAddr] using this
    · cases h
  · rename_i ti b g i o hti
    split at h
    · rename_i es sz wg com hb
      split at h
      · rename_i hw
        split at h
        · rename_i e he
          obtain ⟨hed, hil⟩ := getD_of_get he
          cases ha with
          | pure ha => cases ha
          | mp _ _ _ _ c cap hg hi =>
            obtain ⟨hsz, _, hf, _, _, cs, t', hh, hs, hcell, hrel⟩ := row_cells H hb hg hw hi
            rw [hed] at hf hrel
            simp only [AV.fits, Bool.and_eq_true, beq_iff_eq] at hf
            have := readCells_ok (P := P) (Z := Z) (G := G) (w := w) (hE t ti hti) (e := e) (r := r) (sz := sz) (o := o) (c := c) (b := i * sz) (V := fun o => cs.getD (i * sz + o) Go.undef) hf.1 hcell hrel h
            rw [hsz]
            simpa [Instr.loadAt, Instr.sureAddr] using this
        · cases h
      · cases h
    · cases h
  · cases h

/-- Inversions. -/
theorem Rel.int_inv {Z : Zone} {G : Ghost} {w : World} {k : IntKind} {n : Int} {v : Value} (h : Rel Z G w (.int k n) v) : v = .int k n := by cases h with | pure h => cases h; rfl
theorem Rel.bool_inv {Z : Zone} {G : Ghost} {w : World} {b : Bool} {v : Value} (h : Rel Z G w (.bool b) v) : v = .bool b := by cases h with | pure h => cases h; rfl
theorem Rel.str_inv {Z : Zone} {G : Ghost} {w : World} {s : List UInt8} {v : Value} (h : Rel Z G w (.str s) v) : v = .string ⟨s.toArray⟩ := by cases h with | pure h => cases h; rfl
theorem Rel.nili_inv {Z : Zone} {G : Ghost} {w : World} {v : Value} (h : Rel Z G w .nili v) : v = .nilIface := by cases h with | pure h => cases h; rfl
theorem Rel.nilp_inv {Z : Zone} {G : Ghost} {w : World} {v : Value} (h : Rel Z G w .nilp v) : v = .pointer none := by cases h with | pure h => cases h; rfl
theorem Rel.nils_inv {Z : Zone} {G : Ghost} {w : World} {v : Value} (h : Rel Z G w .nils v) : v = .slice none 0 0 := by cases h with | pure h => cases h; rfl
theorem Rel.z0_inv {Z : Zone} {G : Ghost} {w : World} {v : Value} (h : Rel Z G w .z0 v) : ∃ a, v = .slice a 0 0 := by cases h with | pure h => cases h; exact ⟨_, rfl⟩
theorem Rel.iface_inv {Z : Zone} {G : Ghost} {w : World} {t : TypeId} {a : AV} {v : Value} (h : Rel Z G w (.iface t a) v) : ∃ x, v = .iface t x ∧ Rel Z G w a x := by
  cases h with
  | pure h => cases h with | iface _ _ x h => exact ⟨x, rfl, .pure h⟩
  | iface _ _ x h => exact ⟨x, rfl, h⟩
theorem Rel.ip_inv {Z : Zone} {G : Ghost} {w : World} {es : List AV} {i o : Nat} {v : Value} (h : Rel Z G w (.ip es i o) v) : ∃ a, v = .pointer (some a) := by cases h with | pure h => cases h; exact ⟨_, rfl⟩
theorem Rel.mp_inv {Z : Zone} {G : Ghost} {w : World} {b g i o : Nat} {v : Value} (h : Rel Z G w (.mp b g i o) v) : ∃ a, v = .pointer (some a) := by
  cases h with
  | pure h => cases h
  | mp => exact ⟨_, rfl⟩
theorem Rel.sl_inv {Z : Zone} {G : Ghost} {w : World} {es : List AV} {v : Value} (h : Rel Z G w (.sl es) v) : ∃ a cap, v = .slice a es.length cap ∧ es.length ≤ cap ∧ (es ≠ [] → a ≠ none) := by
  cases h with
  | pure h =>
    cases h with
    | sl _ sz c off cap V hc => exact ⟨_, cap, rfl, hc, by simp⟩
    | sl0 a cap => exact ⟨a, cap, rfl, Nat.zero_le _, by simp⟩
theorem Rel.ms_inv {Z : Zone} {G : Ghost} {w : World} {b g off len : Nat} {v : Value} (h : Rel Z G w (.ms b g off len) v) : ∃ oc cap a, v = .slice a len (cap - off) ∧ G.row b g = some (oc, cap) ∧ off + len ≤ g ∧ g ≤ cap ∧
    (off < cap → ∃ c, oc = some c ∧ a = some ⟨c, off * G.sz b, none⟩) ∧ (g = 0 → oc = none → a = none) := by
  cases h with
  | pure h => cases h
  | ms _ _ _ _ oc cap a hg h1 h2 ha hn => exact ⟨oc, cap, a, rfl, hg, h1, h2, ha, hn⟩
theorem Rel.tup_inv {Z : Zone} {G : Ghost} {w : World} {cs : List AV} {v : Value} (h : Rel Z G w (.tup cs) v) : ∃ vs, v = .tuple vs ∧ cs.length = vs.size ∧ ∀ i, i < cs.length → Rel Z G w (cs.getD i .undef) (vs.getD i Go.undef) := by
  cases h with
  | pure h => cases h with | tup _ vs hl hr => exact ⟨vs, rfl, hl, fun i hi => .pure (hr i hi)⟩
  | tup _ vs hl hr => exact ⟨vs, rfl, hl, hr⟩
theorem Rel.agg_inv {Z : Zone} {G : Ghost} {w : World} {cs : List AV} {v : Value} (h : Rel Z G w (.agg cs) v) : ∃ vs, v = .agg vs ∧ cs.length = vs.size ∧ ∀ i, i < cs.length → Rel Z G w (cs.getD i .undef) (vs.getD i Go.undef) := by
  cases h with
  | pure h => cases h with | agg _ vs hl hr => exact ⟨vs, rfl, hl, fun i hi => .pure (hr i hi)⟩
  | agg _ vs hl hr => exact ⟨vs, rfl, hl, hr⟩
theorem Rel.fn_inv {Z : Zone} {G : Ghost} {w : World} {f : FuncId} {cs : List AV} {v : Value} (h : Rel Z G w (.fn f cs) v) : ∃ vs, v = .func (.func f) #[] vs ∧ cs.length = vs.size ∧ ∀ i, i < cs.length → Rel Z G w (cs.getD i .undef) (vs.getD i Go.undef) := by
  cases h with
  | pure h => cases h with | fn _ _ vs hl hr => exact ⟨vs, rfl, hl, fun i hi => .pure (hr i hi)⟩
  | fn _ _ vs hl hr => exact ⟨vs, rfl, hl, hr⟩

theorem Rel.int' {Z : Zone} {G : Ghost} {w : World} (k : IntKind) (n : Int) : Rel Z G w (.int k n) (.int k n) := .pure (.int k n)
theorem Rel.bool' {Z : Zone} {G : Ghost} {w : World} (b : Bool) : Rel Z G w (.bool b) (.bool b) := .pure (.bool b)
theorem Rel.str' {Z : Zone} {G : Ghost} {w : World} (s : List UInt8) : Rel Z G w (.str s) (.string ⟨s.toArray⟩) := .pure (.str s)



theorem intBin_ok {Z : Zone} {G : Ghost} {w : World} {op : BinOp} {k : IntKind} {a b : Int} {r : AV} (h : intBin op k a b = some r) :
    ∃ x, (match op with
      | .add | .sub | .mul => Op.intArith op k a b
      | .quo | .rem => Op.intDiv op k a b
      | .and | .or | .xor | .andNot => Op.intBits op k a b
      | _ => Op.intCmp op a b).run P w = .ok x w ∧ Rel Z G w r x := by
  by_cases hb : b = 0
  · subst hb
    cases op <;> simp only [intBin, if_true, Option.some.injEq, reduceCtorEq] at h <;>
      first
      | (subst h; exact ⟨_, rfl, .int' _ _⟩)
      | (subst h; exact ⟨_, rfl, .bool' _⟩)
  · cases op <;> simp only [intBin, hb, if_false, Option.some.injEq, reduceCtorEq] at h <;>
      first
      | (subst h; exact ⟨_, rfl, .int' _ _⟩)
      | (subst h; exact ⟨_, rfl, .bool' _⟩)
      | (subst h; exact ⟨.int k _, by simp only [Op.intDiv, if_neg hb]; rfl, .int' _ _⟩)
theorem shiftBin_ok {Z : Zone} {G : Ghost} {w : World} {op : BinOp} {k yk : IntKind} {a b : Int} {r : AV} (h : shiftBin op k a b = some r) :
    ∃ x, (Op.shift op k a yk b).run P w = .ok x w ∧ Rel Z G w r x := by
  unfold shiftBin at h
  split at h
  · cases h
  · rename_i hb
    unfold Op.shift
    rw [if_neg hb]
    cases op <;> simp only [Option.some.injEq] at h <;> first
      | (subst h; exact ⟨_, rfl, .int' _ _⟩)
      | cases h

theorem strBin_ok {Z : Zone} {G : Ghost} {w : World} {op : BinOp} {a b : List UInt8} {r : AV} (h : strBin op a b = some r) :
    ∃ x, (Op.stringOp op ⟨a.toArray⟩ ⟨b.toArray⟩).run P w = .ok x w ∧ Rel Z G w r x := by
  have hs : ∀ l : List UInt8, (⟨l.toArray⟩ : ByteArray).size = l.length := fun l => rfl
  cases op <;> simp only [strBin, Option.some.injEq, reduceCtorEq] at h
  case add =>
    split at h
    · rename_i hb; injection h with h; subst h
      refine ⟨.string ⟨(a ++ b).toArray⟩, ?_, .str' _⟩
      have hm : ¬ ((((⟨a.toArray⟩ : ByteArray).size + (⟨b.toArray⟩ : ByteArray).size : Nat) : Int) > IntKind.i64.max) := by
        rw [hs, hs]; show ¬ (_ > (9223372036854775807 : Int)); omega
      have ha : (⟨a.toArray⟩ : ByteArray) ++ ⟨b.toArray⟩ = ⟨(a ++ b).toArray⟩ := by
        apply ByteArray.ext; simp [ByteArray.data_append]
      simp only [Op.stringOp]
      rw [if_neg hm, ha]; rfl
    · cases h
  all_goals (subst h; refine ⟨.bool _, ?_, .bool' _⟩; simp only [Op.stringOp, ByteArray.toList_mk]; rfl)

structure EqSays (t : TypeId) (c : Bool) (a b : Value) (r : Bool) (w : World) : Prop where
  eq : (Op.equal t a b).run P w = .ok r w
  guard : ∀ op p q, (c = true → ((p matches Operand.const _) || (q matches Operand.const _)) = true) → (eqGuard op t p q a b).run P w = .ok () w
  eql : binOp .eql t a b = (do pure (.bool (← Op.equal t a b)))
  neq : binOp .neq t a b = (do pure (.bool (!(← Op.equal t a b))))

theorem eqD_ok {Z : Zone} {G : Ghost} {w : World} {t : TypeId} {ti : TI} (ht : TiOk P t ti) {c : Bool} {x y : AV} {a b : Value} (hx : Rel Z G w x a) (hy : Rel Z G w y b) {r : Bool} (h : eqD ti.desc c x y = some r) :
    EqSays (P := P) t c a b r w := by
  have hu := run_underlying ht.desc w
  have he : ∀ a b, Op.equal t a b = Op.equalIn (9999 + 1) t a b := fun _ _ => rfl
  unfold eqD at h
  split at h
  all_goals (try (cases h; done))
  · rename_i a' b' hd
    have := hx.bool_inv; have := hy.bool_inv; subst_vars
    injection h with h; subst h
    refine ⟨by rw [he]; unfold Op.equalIn; simp [hu, hd], fun op p q _ => by unfold eqGuard; split <;> rfl, rfl, rfl⟩
  · rename_i ms hd
    have := hx.nili_inv; have := hy.nili_inv; subst_vars
    split at h
    · rename_i hc
      injection h with h; subst h
      refine ⟨by rw [he]; unfold Op.equalIn; simp [hu, hd], fun op p q hpq => ?_, rfl, rfl⟩
      have hpq := hpq hc
      unfold eqGuard
      simp only [hpq]
      cases op <;> first
        | rfl
        | (cases p <;> cases q <;> first
            | rfl
            | (simp at hpq; done))
    · cases h
  · rename_i ms t' a' hd
    obtain ⟨v, rfl, _⟩ := hx.iface_inv; have := hy.nili_inv; subst_vars
    injection h with h; subst h
    refine ⟨by rw [he]; unfold Op.equalIn; simp [hu, hd], fun op p q _ => by unfold eqGuard; split <;> rfl, rfl, rfl⟩
  · rename_i ms t' a' hd
    obtain ⟨v, rfl, _⟩ := hy.iface_inv; have := hx.nili_inv; subst_vars
    injection h with h; subst h
    refine ⟨by rw [he]; unfold Op.equalIn; simp [hu, hd], fun op p q _ => by unfold eqGuard; split <;> rfl, rfl, rfl⟩
  · rename_i el hd
    have := hx.nilp_inv; have := hy.nilp_inv; subst_vars
    injection h with h; subst h
    refine ⟨by rw [he]; unfold Op.equalIn; simp [hu, hd], fun op p q _ => by unfold eqGuard; split <;> rfl, rfl, rfl⟩
  · rename_i el es i o hd
    obtain ⟨p, rfl⟩ := hx.ip_inv; have := hy.nilp_inv; subst_vars
    injection h with h; subst h
    refine ⟨by rw [he]; unfold Op.equalIn; simp [hu, hd], fun op p q _ => by unfold eqGuard; split <;> rfl, rfl, rfl⟩
  · rename_i el es i o hd
    obtain ⟨p, rfl⟩ := hy.ip_inv; have := hx.nilp_inv; subst_vars
    injection h with h; subst h
    refine ⟨by rw [he]; unfold Op.equalIn; simp [hu, hd], fun op p q _ => by unfold eqGuard; split <;> rfl, rfl, rfl⟩
  · rename_i el b g i o hd
    obtain ⟨p, rfl⟩ := hx.mp_inv; have := hy.nilp_inv; subst_vars
    injection h with h; subst h
    refine ⟨by rw [he]; unfold Op.equalIn; simp [hu, hd], fun op p q _ => by unfold eqGuard; split <;> rfl, rfl, rfl⟩
  · rename_i el b g i o hd
    obtain ⟨p, rfl⟩ := hy.mp_inv; have := hx.nilp_inv; subst_vars
    injection h with h; subst h
    refine ⟨by rw [he]; unfold Op.equalIn; simp [hu, hd], fun op p q _ => by unfold eqGuard; split <;> rfl, rfl, rfl⟩
  · rename_i el hd
    have := hx.nils_inv; have := hy.nils_inv; subst_vars
    injection h with h; subst h
    refine ⟨by rw [he]; unfold Op.equalIn; simp [hu, hd], fun op p q _ => by unfold eqGuard; split <;> rfl, rfl, rfl⟩
  · rename_i el e es hd
    obtain ⟨p, cap, rfl, _, hn⟩ := hx.sl_inv; have := hy.nils_inv; subst_vars
    injection h with h; subst h
    cases p with
    | none => exact absurd rfl (hn (by simp))
    | some p => refine ⟨by rw [he]; unfold Op.equalIn; simp [hu, hd], fun op p q _ => by unfold eqGuard; split <;> rfl, rfl, rfl⟩


theorem binInt_ok {Z : Zone} {G : Ghost} {w : World} {op : BinOp} {t : TypeId} {p q : Operand} {k k' : IntKind} {a b : Int} {r : AV} (h : binInt op k a k' b = some r) :
    ∃ v, (do eqGuard op t p q (.int k a) (.int k' b); binOp op t (.int k a) (.int k' b) : Sem Value).run P w = .ok v w ∧ Rel Z G w r v := by
  have hg : (eqGuard op t p q (.int k a) (.int k' b)).run P w = .ok () w := by unfold eqGuard; split <;> rfl
  simp only [Sem.run_bind, hg, Result.andThen_ok]
  unfold binInt at h
  split at h
  · rename_i hop
    have := shiftBin_ok (P := P) (Z := Z) (G := G) (w := w) (yk := k') h
    rcases hop with rfl | rfl <;> simpa [binOp] using this
  · rename_i hop
    split at h
    · rename_i hk
      subst hk
      have := intBin_ok (P := P) (Z := Z) (G := G) (w := w) h
      cases op <;> first | exact absurd (Or.inl rfl) hop | exact absurd (Or.inr rfl) hop | simpa [binOp] using this
    · cases h
theorem binStr_ok {Z : Zone} {G : Ghost} {w : World} {op : BinOp} {t : TypeId} {p q : Operand} {a b : List UInt8} {r : AV} (h : strBin op a b = some r) :
    ∃ v, (do eqGuard op t p q (.string ⟨a.toArray⟩) (.string ⟨b.toArray⟩); binOp op t (.string ⟨a.toArray⟩) (.string ⟨b.toArray⟩) : Sem Value).run P w = .ok v w ∧ Rel Z G w r v := by
  have hg : (eqGuard op t p q (.string ⟨a.toArray⟩) (.string ⟨b.toArray⟩)).run P w = .ok () w := by unfold eqGuard; split <;> rfl
  simp only [Sem.run_bind, hg, Result.andThen_ok]
  have := strBin_ok (P := P) (Z := Z) (G := G) (w := w) h
  cases op <;> simpa [binOp] using this
theorem const_or (p q : Operand) : (isConst p || isConst q) = true → ((p matches Operand.const _) || (q matches Operand.const _)) = true := by
  intro hh; cases p <;> cases q <;> simp_all [isConst]
theorem binEq_ok {Z : Zone} {G : Ghost} {w : World} (hE : ∀ t ti, E.ti t = some ti → TiOk P t ti) {op : BinOp} {t : TypeId} {p q : Operand} {x y r : AV} {a b : Value} (hx : Rel Z G w x a) (hy : Rel Z G w y b)
    (h : binEq E op t (isConst p || isConst q) x y = some r) : ∃ v, (do eqGuard op t p q a b; binOp op t a b : Sem Value).run P w = .ok v w ∧ Rel Z G w r v := by
  have hc := const_or p q
  have key : ∀ e, eqAV E t (isConst p || isConst q) x y = some e → EqSays (P := P) t (isConst p || isConst q) a b e w := by
    intro e he
    unfold eqAV at he
    split at he
    · rename_i ti hti
      exact eqD_ok (hE t ti hti) hx hy he
    · cases he
  unfold binEq at h
  split at h
  · rename_i hop
    subst hop
    cases hd : eqAV E t (isConst p || isConst q) x y with
    | none => rw [hd] at h; cases h
    | some e =>
      rw [hd] at h; injection h with h; subst h
      obtain ⟨h1, h2, h3, h4⟩ := key e hd
      refine ⟨.bool e, ?_, .bool' _⟩
      simp only [Sem.run_bind, h2 .eql p q hc, Result.andThen_ok, h3, h1, Sem.run_pure]
  · split at h
    · rename_i hop
      subst hop
      cases hd : eqAV E t (isConst p || isConst q) x y with
      | none => rw [hd] at h; cases h
      | some e =>
        rw [hd] at h; injection h with h; subst h
        obtain ⟨h1, h2, h3, h4⟩ := key e hd
        refine ⟨.bool (!e), ?_, .bool' _⟩
        simp only [Sem.run_bind, h2 .neq p q hc, Result.andThen_ok, h4, h1, Sem.run_pure]
    · cases h
theorem binAV_ok {Z : Zone} {G : Ghost} {w : World} (hE : ∀ t ti, E.ti t = some ti → TiOk P t ti) {op : BinOp} {t : TypeId} {p q : Operand} {x y r : AV} {a b : Value} (hx : Rel Z G w x a) (hy : Rel Z G w y b)
    (h : binAV E op t (isConst p || isConst q) x y = some r) : ∃ v, (do eqGuard op t p q a b; binOp op t a b : Sem Value).run P w = .ok v w ∧ Rel Z G w r v := by
  have h' := h
  unfold binAV at h'
  split at h'
  · cases hx.int_inv; cases hy.int_inv
    exact binInt_ok h'
  · cases hx.str_inv; cases hy.str_inv
    exact binStr_ok h'
  · exact binEq_ok hE hx hy h'

theorem unAV_ok {Z : Zone} {G : Ghost} {w : World} {op : UnOp} {x r : AV} {a : Value} (hx : Rel Z G w x a) (h : unAV op x = some r) : ∃ v, (Op.unary op a).run P w = .ok v w ∧ Rel Z G w r v := by
  unfold unAV at h
  split at h
  · cases hx.int_inv; injection h with h; subst h; exact ⟨_, rfl, .int' _ _⟩
  · cases hx.int_inv
    have := intBin_ok (P := P) (Z := Z) (G := G) (w := w) h
    simpa [Op.unary] using this
  · cases hx.bool_inv; injection h with h; subst h; exact ⟨_, rfl, .bool' _⟩
  · cases h

theorem convPlain_ok {Z : Zone} {G : Ghost} {w : World} (hE : ∀ t ti, E.ti t = some ti → TiOk P t ti) {s d : TypeId} {x r : AV} {a : Value} (hx : Rel Z G w x a) (h : convPlain E s d x = some r) :
    ∃ v, (convert s d a).run P w = .ok v w ∧ Rel Z G w r v := by
  unfold convPlain at h
  split at h
  · rename_i ti k _ _ _ _ k' n hs hd
    cases hx.int_inv; injection h with h; subst h
    have h1 := run_underlying (hE _ _ hs).desc w
    have h2 := run_underlying (hE _ _ hd).desc w
    refine ⟨.int k (k.wrap n), ?_, .int' _ _⟩
    unfold convert
    simp only [Sem.run_bind, h1, h2, Result.andThen_ok]
    rfl
  · rename_i ti _ _ _ _ s' hs hd
    cases hx.str_inv; injection h with h; subst h
    have h1 := run_underlying (hE _ _ hs).desc w
    have h2 := run_underlying (hE _ _ hd).desc w
    refine ⟨_, ?_, .str' _⟩
    unfold convert
    simp only [Sem.run_bind, h1, h2, Result.andThen_ok]
    rfl
  · cases h

theorem fieldOf_ok (hE : ∀ t ti, E.ti t = some ti → TiOk P t ti) {t : TypeId} {f o : Nat} {ti : TI} (h : fieldOf E t f = some (o, ti)) (w : World) :
    ∃ fs fd, P.underlying t = some (.struct fs) ∧ fs[f]? = some fd ∧ fd.offset = o ∧ TiOk P fd.type ti ∧ ti.size ≠ 0 := by
  unfold fieldOf at h
  split at h
  · rename_i fs _ _ _ _ ht
    split at h
    · rename_i fd hf
      split at h
      · rename_i ti' hti
        split at h
        · cases h
        · rename_i hs
          injection h with h; injection h with h1 h2; subst h1; subst h2
          exact ⟨fs, fd, (hE _ _ ht).desc, hf, rfl, hE _ _ hti, hs⟩
      · cases h
    · cases h
  · cases h

theorem fieldAddr_ok {Z : Zone} {G : Ghost} {w : World} (hE : ∀ t ti, E.ti t = some ti → TiOk P t ti) {t : TypeId} {f : Nat} {x r : AV} {a : Value} (hx : Rel Z G w x a) (h : fieldAddrAV E t x f = some r) :
    ∃ v, (Instr.fieldAt t a f).run P w = .ok v w ∧ Rel Z G w r v := by
  unfold fieldAddrAV at h
  have key : ∀ (o : Nat) (ti : TI) (c b : Nat), fieldOf E t f = some (o, ti) → (Instr.fieldAt t (.pointer (some ⟨c, b, none⟩)) f).run P w = .ok (.pointer (some ⟨c, b + o, none⟩)) w := by
    intro o ti c b hf
    obtain ⟨fs, fd, hu, hfd, ho, hti, hs⟩ := fieldOf_ok hE hf w
    unfold Instr.fieldAt
    simp only [Sem.run_bind, run_underlying hu, Result.andThen_ok, hfd, Instr.sureAddr, Sem.run_pure, fieldPlace, run_sizeOf' hti, if_neg hs, addr_add, ho]
  split at h
  · rename_i o ti es i o' hf
    injection h with h; subst h
    cases hx with
    | pure hx =>
      cases hx with
      | ip _ _ _ sz c off V hz hr hv =>
        refine ⟨_, key o ti _ _ hf, .pure ?_⟩
        have := PRel.ip es i (o' + o) sz c off V hz hr hv
        rwa [show off + (i * sz + (o' + o)) = off + (i * sz + o') + o by omega] at this
  · rename_i o ti b g i o' hf
    injection h with h; subst h
    cases hx with
    | pure hx => cases hx
    | mp _ _ _ _ c cap hg hi =>
      refine ⟨_, key o ti _ _ hf, ?_⟩
      have := Rel.mp (Z := Z) (w := w) b g i (o' + o) c cap hg hi
      rwa [← Nat.add_assoc] at this
  · cases h

/-- A part of a composite value. -/
theorem part_ok {Z : Zone} {G : Ghost} {w : World} {t : TypeId} {ti : TI} (ht : TiOk P t ti) {cs : List AV} {vs : Array Value} {o : Nat} {r : AV} (hl : cs.length = vs.size) (hr : ∀ i, i < cs.length → Rel Z G w (cs.getD i .undef) (vs.getD i Go.undef))
    (h : readCells ti cs o = some r) : ∃ x, (part t vs o).run P w = .ok x w ∧ Rel Z G w r x := by
  unfold readCells at h
  unfold part
  split at h
  · rename_i hagg
    split at h
    · rename_i hle
      injection h with h; subst h
      refine ⟨.agg (vs.extract o (o + ti.size)), by simp [run_isAgg ht, run_sizeOf' ht, hagg], .agg _ _ (by simp; omega) fun i hi => ?_⟩
      simp only [List.length_take, List.length_drop] at hi
      have h1 : ((cs.drop o).take ti.size).getD i .undef = cs.getD (o + i) .undef := by
        simp only [List.getD_eq_getElem?_getD, List.getElem?_take, List.getElem?_drop]
        rw [if_pos (by omega)]
      have h2 : (vs.extract o (o + ti.size)).getD i Go.undef = vs.getD (o + i) Go.undef := by
        rw [Array.getD_eq_getD_getElem?, Array.getD_eq_getD_getElem?, Array.getElem?_extract]
        rw [if_pos (by omega)]
      rw [h1, h2]
      exact hr _ (by omega)
    · cases h
  · rename_i hagg
    have ho : o < cs.length := by
      rcases Nat.lt_or_ge o cs.length with h' | h'
      · exact h'
      · rw [List.getElem?_eq_none h'] at h; cases h
    refine ⟨vs.getD o Go.undef, by simp only [Sem.run_bind, run_isAgg ht, hagg, Result.andThen_ok, Bool.false_eq_true, if_false, Array.getD_of_lt vs o Go.undef (show o < vs.size by omega), Sem.run_pure], ?_⟩
    have := hr o ho
    rw [List.getD_eq_getElem?_getD, h] at this
    simpa using this

theorem field_ok {Z : Zone} {G : Ghost} {w : World} (hE : ∀ t ti, E.ti t = some ti → TiOk P t ti) {t : TypeId} {f : Nat} {x r : AV} {a : Value} (hx : Rel Z G w x a) (h : fieldAV E t x f = some r) :
    ∃ v, (Instr.field t a f).run P w = .ok v w ∧ Rel Z G w r v := by
  unfold fieldAV at h
  split at h
  · rename_i o ti cs hf
    obtain ⟨vs, rfl, hl, hr⟩ := hx.agg_inv
    obtain ⟨fs, fd, hu, hfd, ho, hti, hs⟩ := fieldOf_ok hE hf w
    obtain ⟨v, hv, hrel⟩ := part_ok (P := P) hti hl hr h
    refine ⟨v, ?_, hrel⟩
    unfold Instr.field
    simp only [Sem.run_bind, run_underlying hu, Result.andThen_ok, hfd, asAgg, Sem.run_pure, ho, hv]
  · cases h

theorem natOf_ok {Z : Zone} {G : Ghost} {w : World} {x : AV} {a : Value} (hx : Rel Z G w x a) {n : Nat} (h : natOf x = some n) : ∃ k, a = .int k (n : Int) := by
  unfold natOf at h
  split at h
  · rename_i k m
    split at h
    · rename_i hm
      injection h with h; subst h
      cases hx.int_inv
      exact ⟨k, by rw [Int.toNat_of_nonneg hm]⟩
    · cases h
  · cases h

theorem indexAddr_ok {base : Nat} {Z : Zone} {G : Ghost} {hp : Heap} {w : World} (H : HRel base Z G hp w) (hE : ∀ t ti, E.ti t = some ti → TiOk P t ti) {t : TypeId} {x ix r : AV} {a b : Value} (hx : Rel Z G w x a) (hi : Rel Z G w ix b)
    (h : indexAddrAV E hp t x ix = some r) : ∃ v, (Instr.indexAt t a b).run P w = .ok v w ∧ Rel Z G w r v := by
  unfold indexAddrAV at h
  split at h
  · rename_i ti i ht hn
    obtain ⟨k, rfl⟩ := natOf_ok hi hn
    have hu := (hE _ _ ht).desc
    split at h
    · rename_i e es hd
      rw [hd] at hu
      split at h
      · rename_i te v hte he
        obtain ⟨hed, hil⟩ := getD_of_get he
        split at h
        · rename_i hsz
          injection h with h; subst h
          cases hx with
          | pure hx =>
            cases hx with
            | sl _ sz c off cap V hc hz hr hv =>
              have hf := hz i hil
              rw [hed] at hf
              simp only [AV.fits, Bool.and_eq_true, beq_iff_eq] at hf
              have hs : te.size = sz := by omega
              refine ⟨.pointer (some ⟨c, off + (i * sz + 0), none⟩), ?_, .pure (.ip es i 0 sz c off V hz hr hv)⟩
              unfold Instr.indexAt
              simp only [Sem.run_bind, asIntOf, Sem.run_pure, Result.andThen_ok, run_underlying hu, run_sizeOf' (hE _ _ hte), Int.toNat_natCast]
              rw [if_pos ⟨by omega, by omega⟩]
              simp [addr_add, hs, run_sizeOf' (hE _ _ hte)]
            | sl0 => simp at hil
        · cases h
      · cases h
    · rename_i e b' g off len hd
      rw [hd] at hu
      split at h
      · rename_i te hte
        split at h
        · rename_i es sz wg com hb
          split at h
          · rename_i hc
            obtain ⟨hlt, hsz⟩ := hc
            injection h with h; subst h
            obtain ⟨oc, cap, ad, rfl, hg, h1, h2, ha, _⟩ := hx.ms_inv
            obtain ⟨c, rfl, rfl⟩ := ha (by omega)
            have hG := ((H.row _ _ _ _ _ hb).2 g _ cap hg).1
            refine ⟨.pointer (some ⟨c, (off + i) * G.sz b' + 0, none⟩), ?_, .mp b' g (off + i) 0 c cap hg (by omega)⟩
            unfold Instr.indexAt
            simp only [Sem.run_bind, asIntOf, Sem.run_pure, Result.andThen_ok, run_underlying hu, run_sizeOf' (hE _ _ hte), Int.toNat_natCast]
            rw [if_pos ⟨by omega, by omega⟩]
            simp [addr_add, run_sizeOf' (hE _ _ hte), hG, hsz, Nat.add_mul]
          · cases h
        · cases h
      · cases h
    · cases h
  · cases h

theorem index_ok {Z : Zone} {G : Ghost} {w : World} (hE : ∀ t ti, E.ti t = some ti → TiOk P t ti) {t : TypeId} {x ix r : AV} {a b : Value} (hx : Rel Z G w x a) (hi : Rel Z G w ix b)
    (h : indexAV E t x ix = some r) : ∃ v, (Instr.index t a b).run P w = .ok v w ∧ Rel Z G w r v := by
  unfold indexAV at h
  split at h
  · rename_i ti i ht hn
    obtain ⟨k, rfl⟩ := natOf_ok hi hn
    have hu := (hE _ _ ht).desc
    split at h
    · rename_i s hd
      rw [hd] at hu
      cases hx.str_inv
      cases hs : s[i]? with
      | none => rw [hs] at h; cases h
      | some c =>
        rw [hs] at h; injection h with h; subst h
        refine ⟨.int .u8 c.toNat, ?_, .int' _ _⟩
        have hg : (⟨s.toArray⟩ : ByteArray)[i]? = some c := by
          have hil : i < s.length := by
            rcases Nat.lt_or_ge i s.length with h' | h'
            · exact h'
            · rw [List.getElem?_eq_none h'] at hs; cases hs
          have hil' : i < (⟨s.toArray⟩ : ByteArray).size := hil
          rw [getElem?_pos (⟨s.toArray⟩ : ByteArray) i hil']
          rw [List.getElem?_eq_getElem hil] at hs
          injection hs with hs
          rw [← hs]; rfl
        unfold Instr.index
        simp only [Sem.run_bind, asIntOf, Sem.run_pure, Result.andThen_ok, run_underlying hu, Int.toNat_natCast]
        rw [if_pos (by omega), hg]; rfl
    · rename_i n e cs hd
      rw [hd] at hu
      obtain ⟨vs, rfl, hl, hr⟩ := hx.agg_inv
      split at h
      · rename_i te hte
        split at h
        · rename_i hin
          obtain ⟨v, hv, hrel⟩ := part_ok (P := P) (hE _ _ hte) hl hr h
          refine ⟨v, ?_, hrel⟩
          unfold Instr.index
          simp only [Sem.run_bind, asIntOf, Sem.run_pure, Result.andThen_ok, run_underlying hu, Int.toNat_natCast, run_sizeOf' (hE _ _ hte)]
          rw [if_pos ⟨by omega, by omega⟩]
          simp [run_sizeOf' (hE _ _ hte), hv]
        · cases h
      · cases h
    · cases h
  · cases h
end Go.EV
/-
  Each operation of the model does what the evaluator says: slices, literals, lengths; and how own memory grows and is written.
-/
set_option linter.unusedSimpArgs false
set_option linter.unusedVariables false
namespace Go.EV
open Go.RowKit
variable {E : Env} {P : Program}

theorem extract_mk (s : List UInt8) (l h : Nat) (hl : l ≤ h) (hh : h ≤ s.length) : (⟨s.toArray⟩ : ByteArray).extract l h = ⟨((s.drop l).take (h - l)).toArray⟩ := by
  apply ByteArray.ext
  apply Array.ext'
  simp [ByteArray.data_extract, List.extract_eq_take_drop]

/-- A bound that the evaluator knows. -/
theorem bound_ok {Z : Zone} {G : Ghost} {w : World} {d n : Nat} {x : Option AV} {a : Option Value} (hx : match x, a with | some x, some a => Rel Z G w x a | none, none => True | _, _ => False) (h : bound d x = some n) :
    (x = none ∧ a = none ∧ n = d) ∨ ∃ y k, x = some y ∧ a = some (.int k (n : Int)) := by
  unfold bound at h
  split at h
  · cases a with
    | none => injection h with h; exact .inl ⟨rfl, rfl, h.symm⟩
    | some a => exact hx.elim
  · rename_i y
    cases a with
    | none => exact hx.elim
    | some a =>
      obtain ⟨k, rfl⟩ := natOf_ok hx h
      exact .inr ⟨y, k, rfl, rfl⟩

theorem run_sliceBound (n y : Nat) (k : IntKind) (c : BoundsCode) (w : World) (h : n ≤ y) : (Instr.sliceBound (.int k (n : Int)) y c).run P w = .ok n w := by
  unfold Instr.sliceBound
  simp only [Sem.run_bind, asIntOf, Sem.run_pure, Result.andThen_ok]
  rw [if_pos ⟨by omega, by omega⟩]
  simp

/-- The bounds of a slice expression without a third index. -/
theorem run_bounds2 {Z : Zone} {G : Ghost} {w : World} {lo hi : Option AV} {a b : Option Value} {l h len cap : Nat} {isS : Bool}
    (hlo : match lo, a with | some x, some a => Rel Z G w x a | none, none => True | _, _ => False) (hhi : match hi, b with | some x, some a => Rel Z G w x a | none, none => True | _, _ => False)
    (h1 : bound 0 lo = some l) (h2 : bound len hi = some h) (hl : l ≤ h) (hh : h ≤ cap) : (Instr.sliceBounds isS len cap a b none).run P w = .ok (l, h, cap) w := by
  unfold Instr.sliceBounds
  rcases bound_ok hlo h1 with ⟨_, rfl, rfl⟩ | ⟨_, k, _, rfl⟩ <;> rcases bound_ok hhi h2 with ⟨_, rfl, rfl⟩ | ⟨_, k', _, rfl⟩
  · simp
  · simp [run_sliceBound _ _ _ _ _ hh]
  · simp [run_sliceBound _ _ _ _ _ hl]
  · simp [run_sliceBound _ _ _ _ _ hl, run_sliceBound _ _ _ _ _ hh]
theorem run_bounds3 {Z : Zone} {G : Ghost} {w : World} {lo hi : Option AV} {mx : AV} {a b : Option Value} {m : Value} {l h n len cap : Nat} {isS : Bool}
    (hlo : match lo, a with | some x, some a => Rel Z G w x a | none, none => True | _, _ => False) (hhi : Rel Z G w mx m ∧ match hi, b with | some x, some a => Rel Z G w x a | none, none => True | _, _ => False)
    (h1 : bound 0 lo = some l) (h2 : hi ≠ none ∧ bound len hi = some h) (h3 : natOf mx = some n) (hl : l ≤ h) (hh : h ≤ n) (hn : n ≤ cap) : (Instr.sliceBounds isS len cap a b (some m)).run P w = .ok (l, h, n) w := by
  unfold Instr.sliceBounds
  obtain ⟨km, rfl⟩ := natOf_ok hhi.1 h3
  rcases bound_ok hhi.2 h2.2 with ⟨h', _, _⟩ | ⟨_, k', _, rfl⟩
  · exact absurd h' h2.1
  rcases bound_ok hlo h1 with ⟨_, rfl, rfl⟩ | ⟨_, k, _, rfl⟩
  · simp [run_sliceBound _ _ _ _ _ hh, run_sliceBound _ _ _ _ _ hn]
  · simp [run_sliceBound _ _ _ _ _ hl, run_sliceBound _ _ _ _ _ hh, run_sliceBound _ _ _ _ _ hn]

theorem getD_drop_take (es : List AV) (l n i : Nat) (hi : i < ((es.drop l).take n).length) : ((es.drop l).take n).getD i .undef = es.getD (l + i) .undef := by
  simp only [List.length_take, List.length_drop] at hi
  simp only [List.getD_eq_getElem?_getD, List.getElem?_take, List.getElem?_drop]
  rw [if_pos (by omega)]

/-- A part of a slice that is written no more. -/
theorem sl_part {Z : Zone} {w : World} {es : List AV} {sz c off : Nat} {V : Nat → Nat → Value} (hz : ∀ i, i < es.length → (es.getD i .undef).fits sz = true)
    (hr : ∀ i o, i < es.length → o < sz → w.cell? ⟨c, off + (i * sz + o), none⟩ = some (V i o) ∧ Z c (off + (i * sz + o)))
    (hv : ∀ i o, i < es.length → o < sz → PRel Z w ((es.getD i .undef).cells.getD o .undef) (V i o)) (l n cap' : Nat) (hn : ((es.drop l).take n).length ≤ cap') :
    PRel Z w (.sl ((es.drop l).take n)) (.slice (some ⟨c, off + l * sz, none⟩) ((es.drop l).take n).length cap') := by
  have hlen : ∀ i, i < ((es.drop l).take n).length → l + i < es.length := by
    intro i hi; simp only [List.length_take, List.length_drop] at hi; omega
  refine .sl _ sz c (off + l * sz) cap' (fun i o => V (l + i) o) hn (fun i hi => ?_) (fun i o hi ho => ?_) (fun i o hi ho => ?_)
  · rw [getD_drop_take es l n i hi]; exact hz _ (hlen i hi)
  · have := hr (l + i) o (hlen i hi) ho
    rwa [Nat.add_mul, show off + (l * sz + i * sz + o) = off + l * sz + (i * sz + o) by omega] at this
  · rw [getD_drop_take es l n i hi]; exact hv _ _ (hlen i hi) ho


abbrev ORel (Z : Zone) (G : Ghost) (w : World) (x : Option AV) (a : Option Value) : Prop := match x, a with | some x, some a => Rel Z G w x a | none, none => True | _, _ => False

theorem sized_get {n : Nat} {es : List AV} (h : sized n es = true) {i : Nat} (hi : i < es.length) : (es.getD i .undef).cells.length = n := by
  simp only [sized, List.all_eq_true, beq_iff_eq] at h
  have := h _ (List.getElem_mem hi)
  rwa [show es.getD i .undef = es[i] by simp [List.getD_eq_getElem?_getD, hi]]
theorem fits_len {n : Nat} {a : AV} (h : a.fits n = true) : a.cells.length = n := by
  simp only [AV.fits, Bool.and_eq_true, beq_iff_eq] at h; exact h.1

theorem run_slice {t e : TypeId} {te : TI} (hu : P.underlying t = some (.slice e)) (hte : TiOk P e te) (w : World) (x : Option Addr) (len cap l h m : Nat) (a b mx : Option Value)
    (hb : (Instr.sliceBounds true len cap a b mx).run P w = .ok (l, h, m) w) :
    (Instr.sliceAt t (.slice x len cap) a b mx).run P w = .ok (.slice (if m = l then x else x.map (·.add (l * te.size))) (h - l) (m - l)) w := by
  unfold Instr.sliceAt
  simp only [Sem.run_bind, run_underlying hu, Result.andThen_ok]
  unfold Instr.slice
  simp only [Sem.run_bind, run_underlying hu, Result.andThen_ok, hb, run_sizeOf' hte, Sem.run_pure]

theorem sliceStr_ok {Z : Zone} {G : Ghost} {w : World} {t : TypeId} {s : List UInt8} {lo hi mx : Option AV} {a b m : Option Value} {r : AV} (hu : P.underlying t = some .string)
    (hlo : ORel Z G w lo a) (hhi : ORel Z G w hi b) (hmx : ORel Z G w mx m) (h : sliceStr s lo hi mx = some r) : ∃ u, (Instr.sliceAt t (.string ⟨s.toArray⟩) a b m).run P w = .ok u w ∧ Rel Z G w r u := by
  unfold sliceStr at h
  split at h
  · rename_i l hh h1 h2
    split at h
    · rename_i hc
      injection h with h; subst h
      cases m with
      | some m => exact hmx.elim
      | none =>
        have hb := run_bounds2 (P := P) (isS := false) (len := s.length) (cap := s.length) hlo hhi h1 h2 hc.1 hc.2
        refine ⟨_, ?_, .str' _⟩
        unfold Instr.sliceAt
        simp only [Sem.run_bind, run_underlying hu, Result.andThen_ok]
        unfold Instr.slice
        simp only [Sem.run_bind, run_underlying hu, Result.andThen_ok]
        have hs : (⟨s.toArray⟩ : ByteArray).size = s.length := rfl
        simp only [Option.isSome_none, Bool.false_eq_true, if_false, hs, Sem.run_bind, hb, Result.andThen_ok, Sem.run_pure, extract_mk s l hh hc.1 hc.2]
    · cases h
  · cases h

theorem sliceSl_ok {Z : Zone} {G : Ghost} {w : World} {t e : TypeId} {te : TI} {es : List AV} {v : Value} {lo hi mx : Option AV} {a b m : Option Value} {r : AV} (hu : P.underlying t = some (.slice e)) (hte : TiOk P e te)
    (hx : Rel Z G w (.sl es) v) (hlo : ORel Z G w lo a) (hhi : ORel Z G w hi b) (hmx : ORel Z G w mx m) (h : sliceSl te.size es lo hi mx = some r) : ∃ u, (Instr.sliceAt t v a b m).run P w = .ok u w ∧ Rel Z G w r u := by
  unfold sliceSl at h
  split at h
  rotate_left
  · cases h
  rename_i hsz
  -- the relation of the part
  have hpart : ∀ l hh mm x cap, v = .slice x es.length cap → l ≤ hh → hh ≤ mm → mm ≤ cap → hh ≤ es.length →
      Rel Z G w (.sl ((es.drop l).take (hh - l))) (.slice (if mm = l then x else x.map (·.add (l * te.size))) (hh - l) (mm - l)) := by
    intro l hh mm x cap hv h1 h2 h3 h4
    have hlen : ((es.drop l).take (hh - l)).length = hh - l := by simp; omega
    by_cases hemp : hh - l = 0
    · have : (es.drop l).take (hh - l) = [] := by rw [hemp]; simp
      rw [this, hemp]; exact .pure (.sl0 _ _)
    · have hne : mm ≠ l := by omega
      rw [if_neg hne]
      cases hx with
      | pure hx =>
        cases hx with
        | sl _ sz c off cap' V hc hz hr hvv =>
          injection hv with e1 e2 e3
          subst e1
          have hs : te.size = sz := by
            have h0 : l < es.length := by omega
            rw [← sized_get hsz h0, fits_len (hz l h0)]
          simp only [Option.map_some, addr_add, hs]
          have := sl_part hz hr hvv l (hh - l) (mm - l) (by omega)
          rw [hlen] at this
          exact .pure this
        | sl0 => simp at h4; omega
  obtain ⟨x, cap, hv, hcap, _⟩ := hx.sl_inv
  split at h
  · rename_i l hh h1 h2
    split at h
    · rename_i hc
      injection h with h; subst h
      cases m with
      | some m => exact hmx.elim
      | none =>
        subst hv
        have hb := run_bounds2 (P := P) (isS := true) (len := es.length) (cap := cap) hlo hhi h1 h2 hc.1 (by omega)
        exact ⟨_, run_slice hu hte w x _ _ _ _ _ _ _ _ hb, hpart l hh cap x cap rfl hc.1 (by omega) (Nat.le_refl _) hc.2⟩
    · cases h
  · rename_i l hh mm h1 h2
    split at h
    · rename_i n hn
      split at h
      · rename_i hc
        obtain ⟨hs, hc1, hc2, hc3⟩ := hc
        cases m with
        | none => exact hmx.elim
        | some m =>
          subst hv
          have hb := run_bounds3 (P := P) (isS := true) (len := es.length) (cap := cap) (mx := mm) (m := m) hlo ⟨hmx, hhi⟩ h1 ⟨(by intro e; rw [e] at hs; cases hs), h2⟩ hn hc1 hc2 (by omega)
          have hp := hpart l hh n x cap rfl hc1 hc2 (by omega) (by omega)
          refine ⟨_, run_slice hu hte w x _ _ _ _ _ _ _ _ hb, ?_⟩
          split at h
          · rename_i he
            injection h with h; subst h
            subst he
            rw [if_pos rfl, show hh - l = 0 by omega, show l - l = 0 by omega]
            exact .pure (.z0 _)
          · injection h with h; subst h
            exact hp
      · cases h
    · cases h
  · cases h

theorem sliceMs_ok {base : Nat} {Z : Zone} {G : Ghost} {hp : Heap} {w : World} (H : HRel base Z G hp w) {t e : TypeId} {te : TI} {bb g off len : Nat} {v : Value} {lo hi mx : Option AV} {a b m : Option Value} {r : AV} (hu : P.underlying t = some (.slice e)) (hte : TiOk P e te)
    (hx : Rel Z G w (.ms bb g off len) v) (hlo : ORel Z G w lo a) (hhi : ORel Z G w hi b) (hmx : ORel Z G w mx m) (h : sliceMs hp te.size bb g off len lo hi mx = some r) : ∃ u, (Instr.sliceAt t v a b m).run P w = .ok u w ∧ Rel Z G w r u := by
  unfold sliceMs at h
  split at h
  rotate_left
  · cases h
  rename_i es sz wg com hb
  split at h
  rotate_left
  · cases h
  rename_i hsz
  subst hsz
  obtain ⟨oc, cap, x, hv, hg, hl, hgc, ha, hn⟩ := hx.ms_inv
  subst hv
  have hG := ((H.row _ _ _ _ _ hb).2 g _ cap hg).1
  split at h
  · rename_i l hh h1 h2
    split at h
    · rename_i hc
      injection h with h; subst h
      cases m with
      | some m => exact hmx.elim
      | none =>
        have hb' := run_bounds2 (P := P) (isS := true) (len := len) (cap := cap - off) hlo hhi h1 h2 hc.1 (by omega)
        refine ⟨_, run_slice hu hte w x _ _ _ _ _ _ _ _ hb', ?_⟩
        rw [show cap - off - l = cap - (off + l) by omega]
        refine .ms bb g (off + l) (hh - l) oc cap _ hg (by omega) hgc (fun hlt => ?_) (fun h0 h1 => ?_)
        · obtain ⟨c, hoc, hx'⟩ := ha (by omega)
          refine ⟨c, hoc, ?_⟩
          rw [if_neg (by omega), hx']
          simp [addr_add, hG, Nat.add_mul]
        · have := hn h0 h1
          subst this; simp
    · cases h
  · rename_i l hh mm h1 h2
    split at h
    · rename_i n hn'
      split at h
      · rename_i hc
        obtain ⟨hs, hc1, hc2, hc3⟩ := hc
        injection h with h; subst h
        cases m with
        | none => exact hmx.elim
        | some m =>
          have hb' := run_bounds3 (P := P) (isS := true) (len := len) (cap := cap - off) (mx := mm) (m := m) hlo ⟨hmx, hhi⟩ h1 ⟨(by intro e; rw [e] at hs; cases hs), h2⟩ hn' (by omega) (by omega) (by omega)
          refine ⟨_, run_slice hu hte w x _ _ _ _ _ _ _ _ hb', ?_⟩
          rw [if_pos (by omega), show hh - l = 0 by omega, show n - l = 0 by omega]
          exact .pure (.z0 _)
      · cases h
    · cases h
  · cases h

theorem sliceNil_ok {Z : Zone} {G : Ghost} {w : World} {t e : TypeId} {te : TI} {y : AV} {ad : Option Addr} {lo hi mx : Option AV} {a b m : Option Value} {r : AV} (hu : P.underlying t = some (.slice e)) (hte : TiOk P e te)
    (hy : Rel Z G w y (.slice ad 0 0)) (hlo : ORel Z G w lo a) (hhi : ORel Z G w hi b) (hmx : ORel Z G w mx m) (h : sliceNil y lo hi mx = some r) : ∃ u, (Instr.sliceAt t (.slice ad 0 0) a b m).run P w = .ok u w ∧ Rel Z G w r u := by
  unfold sliceNil at h
  split at h
  · rename_i h1 h2
    injection h with h; subst h
    cases m with
    | some m => exact hmx.elim
    | none =>
      have hb' := run_bounds2 (P := P) (isS := true) (len := 0) (cap := 0) hlo hhi h1 h2 (Nat.le_refl _) (Nat.le_refl _)
      refine ⟨_, run_slice hu hte w ad _ _ _ _ _ _ _ _ hb', ?_⟩
      simpa using hy
  · rename_i mm h1 h2
    split at h
    · rename_i hn'
      split at h
      · rename_i hs
        injection h with h; subst h
        cases m with
        | none => exact hmx.elim
        | some m =>
          have hb' := run_bounds3 (P := P) (isS := true) (len := 0) (cap := 0) (mx := mm) (m := m) hlo ⟨hmx, hhi⟩ h1 ⟨(by intro e; rw [e] at hs; cases hs), h2⟩ hn' (Nat.le_refl _) (Nat.le_refl _) (Nat.le_refl _)
          refine ⟨_, run_slice hu hte w ad _ _ _ _ _ _ _ _ hb', ?_⟩
          simpa using hy
      · cases h
    · cases h
  · cases h

theorem sliceAV_ok {base : Nat} {Z : Zone} {G : Ghost} {hp : Heap} {w : World} (H : HRel base Z G hp w) (hE : ∀ t ti, E.ti t = some ti → TiOk P t ti) {t : TypeId} {x r : AV} {lo hi mx : Option AV} {v : Value} {a b m : Option Value} (hx : Rel Z G w x v)
    (hlo : ORel Z G w lo a) (hhi : ORel Z G w hi b) (hmx : ORel Z G w mx m) (h : sliceAV E hp t x lo hi mx = some r) : ∃ u, (Instr.sliceAt t v a b m).run P w = .ok u w ∧ Rel Z G w r u := by
  unfold sliceAV at h
  split at h
  · rename_i ti ht
    have hu := (hE _ _ ht).desc
    split at h
    · rename_i hd
      rw [hd] at hu
      split at h
      · cases hx.str_inv; exact sliceStr_ok hu hlo hhi hmx h
      · cases h
    · rename_i e hd
      rw [hd] at hu
      split at h
      · rename_i te hte
        split at h
        · exact sliceSl_ok hu (hE _ _ hte) hx hlo hhi hmx h
        · exact sliceMs_ok H hu (hE _ _ hte) hx hlo hhi hmx h
        · cases hx.nils_inv; exact sliceNil_ok hu (hE _ _ hte) hx hlo hhi hmx h
        · obtain ⟨ad, rfl⟩ := hx.z0_inv; exact sliceNil_ok hu (hE _ _ hte) hx hlo hhi hmx h
        · cases h
      · cases h
    · cases h
  · cases h

theorem lenAV_ok {Z : Zone} {G : Ghost} {w : World} (hE : ∀ t ti, E.ti t = some ti → TiOk P t ti) {t ty : TypeId} {x r : AV} {v : Value} (hx : Rel Z G w x v) (h : lenAV E t x = some r) :
    ∃ u, (Builtin.len_ #[t] ty #[v]).run P w = .ok u w ∧ Rel Z G w r u := by
  unfold lenAV at h
  split at h
  · rename_i ti ht
    have hu := (hE _ _ ht).desc
    split at h
    · rename_i s hd
      rw [hd] at hu
      cases hx.str_inv; injection h with h; subst h
      exact ⟨.int .i64 s.length, by simp [Builtin.len_, run_underlying hu, goInt]; rfl, .int' _ _⟩
    · rename_i e es hd
      rw [hd] at hu
      obtain ⟨a, cap, rfl, _⟩ := hx.sl_inv; injection h with h; subst h
      exact ⟨.int .i64 es.length, by simp [Builtin.len_, run_underlying hu, goInt], .int' _ _⟩
    · rename_i e b g off n hd
      rw [hd] at hu
      obtain ⟨oc, cap, a, rfl, _⟩ := hx.ms_inv; injection h with h; subst h
      exact ⟨.int .i64 n, by simp [Builtin.len_, run_underlying hu, goInt], .int' _ _⟩
    · rename_i e hd
      rw [hd] at hu
      cases hx.nils_inv; injection h with h; subst h
      exact ⟨.int .i64 0, by simp [Builtin.len_, run_underlying hu, goInt], .int' _ _⟩
    · rename_i e hd
      rw [hd] at hu
      obtain ⟨a, rfl⟩ := hx.z0_inv; injection h with h; subst h
      exact ⟨.int .i64 0, by simp [Builtin.len_, run_underlying hu, goInt], .int' _ _⟩
    · rename_i n e hd
      rw [hd] at hu
      injection h with h; subst h
      exact ⟨.int .i64 n, by simp [Builtin.len_, run_underlying hu, goInt], .int' _ _⟩
    · cases h
  · cases h

theorem minAV_ok {Z : Zone} {G : Ghost} {w : World} {ts : Array TypeId} {ty : TypeId} {x y r : AV} {a b : Value} (hx : Rel Z G w x a) (hy : Rel Z G w y b) (h : minAV x y = some r) :
    ∃ u, (Builtin.min_ ts ty #[a, b]).run P w = .ok u w ∧ Rel Z G w r u := by
  unfold minAV at h
  split at h
  · cases hx.int_inv; cases hy.int_inv; injection h with h; subst h
    exact ⟨_, by simp [Builtin.min_, Builtin.min2], .int' _ _⟩
  · cases h
theorem maxAV_ok {Z : Zone} {G : Ghost} {w : World} {ts : Array TypeId} {ty : TypeId} {x y r : AV} {a b : Value} (hx : Rel Z G w x a) (hy : Rel Z G w y b) (h : maxAV x y = some r) :
    ∃ u, (Builtin.max_ ts ty #[a, b]).run P w = .ok u w ∧ Rel Z G w r u := by
  unfold maxAV at h
  split at h
  · cases hx.int_inv; cases hy.int_inv; injection h with h; subst h
    exact ⟨_, by simp [Builtin.max_, Builtin.max2], .int' _ _⟩
  · cases h
end Go.EV
