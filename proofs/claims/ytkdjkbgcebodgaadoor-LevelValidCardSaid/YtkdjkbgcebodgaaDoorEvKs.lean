/-
  The simplifier's rules: from a constructor to what it comes to; no rule leaves a case distinction behind.
-/
import Derived.Test.YtkdjkbgcebodgaaDoorEvK
set_option linter.unusedSimpArgs false
set_option linter.unusedVariables false
namespace Go.EV
variable {E : Env} {callF : CallF} {it : Iter} {f : FuncId} {α : Type}

/-! Operations. -/
def vK (v : Option AV) (tm : List AV) (hp : Heap) (dst : Option Tmp) (k : St → Option α) (_ : Hid k) : Option α := bnd (v.map fun r => St.mk (putAV tm dst r) hp) k ⟨⟩
theorem vK_some {r : AV} {tm : List AV} {hp : Heap} {dst : Option Tmp} {k : St → Option α} {hk : Hid k} : vK (some r) tm hp dst k hk = bnd (some (St.mk (putAV tm dst r) hp)) k ⟨⟩ := rfl
def pK (v : Option (AV × Heap)) (tm : List AV) (dst : Option Tmp) (k : St → Option α) (_ : Hid k) : Option α := bnd (v.map fun p => St.mk (putAV tm dst p.1) p.2) k ⟨⟩
theorem pK_some {r : AV} {tm : List AV} {hp : Heap} {dst : Option Tmp} {k : St → Option α} {hk : Hid k} : pK (some (r, hp)) tm dst k hk = bnd (some (St.mk (putAV tm dst r) hp)) k ⟨⟩ := rfl

def gvD (d : Option Nat) (tm : List AV) (want : Bool) : Option GV := match d with
  | none => some .no
  | some d => match tm[d]? with
    | some (.bool b) => some (.as (b == want))
    | some (.tup []) => some .no
    | _ => none
def gvV (v : Option AV) (want : Bool) : Option GV := match v with
  | some (.bool b) => some (.as (b == want))
  | some (.tup []) => some .no
  | _ => none
theorem gvD_some {d : Nat} {tm : List AV} {want : Bool} : gvD (some d) tm want = gvV tm[d]? want := rfl
theorem gvV_bool {b want : Bool} : gvV (some (.bool b)) want = some (.as (b == want)) := rfl
theorem gvV_tup {want : Bool} : gvV (some (.tup [])) want = some .no := rfl
theorem kOps_nil {all : List Oper} {st : St} {k : St → Option α} {hk : Hid k} : opsK E callF all [] st k hk = k st := rfl
theorem kOps_cons {all : List Oper} {dst : Option Tmp} {op : Op} {ty : TypeId} {pos : String} {after : Array Edge} {os : List Oper} {tm : List AV} {hp : Heap} {k : St → Option α} {hk : Hid k} :
    opsK E callF all (⟨dst, op, ty, pos, after, none⟩ :: os) ⟨tm, hp⟩ k hk = opK E callF tm hp dst op (fun st => opsK E callF all os st k ⟨⟩) ⟨⟩ := rfl
theorem kOps_guard {all : List Oper} {dst : Option Tmp} {op : Op} {ty : TypeId} {pos : String} {after : Array Edge} {j : Nat} {want : Bool} {os : List Oper} {tm : List AV} {hp : Heap} {k : St → Option α} {hk : Hid k} :
    opsK E callF all (⟨dst, op, ty, pos, after, some (j, want)⟩ :: os) ⟨tm, hp⟩ k hk = onG (gvD ((all[j]?).bind (·.dst)) tm want) (fun _ => opK E callF tm hp dst op (fun st => opsK E callF all os st k ⟨⟩) ⟨⟩)
      (fun _ => bnd (some (St.mk (putAV tm dst (.tup [])) hp)) (fun st => opsK E callF all os st k ⟨⟩) ⟨⟩) ⟨⟩ ⟨⟩ := by
  rw [opsK]
  rfl
theorem dst_mk {dst : Option Tmp} {op : Op} {ty : TypeId} {pos : String} {after : Array Edge} {g : Option (Nat × Bool)} : (Oper.mk dst op ty pos after g).dst = dst := rfl

variable {tm : List AV} {hp : Heap} {dst : Option Tmp} {k : St → Option α} {hk : Hid k}
theorem kMove {x : Operand} : opK E callF tm hp dst (.move x) k hk = bnd (some (St.mk (putAV tm dst (opnd E tm x)) hp)) k ⟨⟩ := rfl
theorem kAssign {x : Operand} : opK E callF tm hp dst (.assign x) k hk = bnd (some (St.mk (putAV tm dst (opnd E tm x)) hp)) k ⟨⟩ := rfl
theorem kPick {c a b : Operand} : opK E callF tm hp dst (.pick c a b) k hk = onB (opnd E tm c) (fun x => sw x (fun _ => bnd (some (St.mk (putAV tm dst (opnd E tm a)) hp)) k ⟨⟩) (fun _ => bnd (some (St.mk (putAV tm dst (opnd E tm b)) hp)) k ⟨⟩) ⟨⟩ ⟨⟩) ⟨⟩ := rfl
theorem bnd_v {v : Option AV} : bnd ((v.map (·, hp)).map (stOf tm dst)) k hk = vK v tm hp dst k hk := by cases v <;> rfl
theorem bnd_p {v : Option (AV × Heap)} : bnd (v.map (stOf tm dst)) k hk = pK v tm dst k hk := by cases v <;> rfl
theorem kBin {op : BinOp} {t : TypeId} {x y : Operand} {yt : TypeId} : opK E callF tm hp dst (.binOp op t x y yt) k hk = vK (binAV E op t (isConst x || isConst y) (opnd E tm x) (opnd E tm y)) tm hp dst k hk := bnd_v
theorem kUn {op : UnOp} {t : TypeId} {x : Operand} : opK E callF tm hp dst (.unOp op t x) k hk = vK (unAV op (opnd E tm x)) tm hp dst k hk := bnd_v
theorem kConvert {s d : TypeId} {x : Operand} : opK E callF tm hp dst (.convert s d x) k hk = vK (convAV E s d (opnd E tm x)) tm hp dst k hk := bnd_v
theorem kLoad {t : TypeId} {x : Operand} : opK E callF tm hp dst (.load t x) k hk = vK (loadAV E hp t (opnd E tm x)) tm hp dst k hk := bnd_v
theorem kStore {t : TypeId} {x y : Operand} : opK E callF tm hp dst (.store t x y) k hk = pK ((storeAV E hp t (opnd E tm x) (opnd E tm y)).map (.tup [], ·)) tm dst k hk := bnd_p
theorem kField {t : TypeId} {x : Operand} {n : Nat} : opK E callF tm hp dst (.field t x n) k hk = vK (fieldAV E t (opnd E tm x) n) tm hp dst k hk := bnd_v
theorem kFieldAddr {t : TypeId} {x : Operand} {n : Nat} : opK E callF tm hp dst (.fieldAddr t x n) k hk = vK (fieldAddrAV E t (opnd E tm x) n) tm hp dst k hk := bnd_v
theorem kIndex {t : TypeId} {x y : Operand} : opK E callF tm hp dst (.index t x y) k hk = vK (indexAV E t (opnd E tm x) (opnd E tm y)) tm hp dst k hk := bnd_v
theorem kIndexAddr {t : TypeId} {x y : Operand} : opK E callF tm hp dst (.indexAddr t x y) k hk = vK (indexAddrAV E hp t (opnd E tm x) (opnd E tm y)) tm hp dst k hk := bnd_v
def extractT (v : AV) (i : Nat) : Option AV := match v with
  | .tup vs => vs[i]?
  | _ => none
theorem extractT_tup {vs : List AV} {i : Nat} : extractT (.tup vs) i = vs[i]? := rfl
theorem kExtract {x : Operand} {i : Nat} : opK E callF tm hp dst (.extract x i) k hk = vK (extractT (opnd E tm x) i) tm hp dst k hk := by
  have e : evAny E callF tm hp (.extract x i) = (extractT (opnd E tm x) i).map (·, hp) := by
    show (match opnd E tm x with
      | .tup vs => (vs[i]?).map (·, hp)
      | _ => none) = _
    cases opnd E tm x <;> rfl
  show bnd ((evAny E callF tm hp (.extract x i)).map (stOf tm dst)) k ⟨⟩ = _
  rw [e]; exact bnd_v
def allocT (ti : Option TI) (hp : Heap) : Option (AV × Heap) := match ti with
  | some ti => if ti.zero.fits ti.size = true ∧ 0 < ti.size then some (.mp hp.length 1 0 0, hp ++ [.row [ti.zero] ti.size 0 0]) else none
  | none => none
theorem allocT_some {d : TypeDesc} {a : Bool} {n b : Nat} {z : AV} : allocT (some ⟨d, a, n, b, z⟩) hp = if z.fits n = true ∧ 0 < n then some (.mp hp.length 1 0 0, hp ++ [.row [z] n 0 0]) else none := rfl
theorem kAlloc {t : TypeId} : opK E callF tm hp dst (.alloc t) k hk = pK (allocT (E.ti t) hp) tm dst k hk := bnd_p
def boxT (ti : Option TI) (hp : Heap) (v : AV) : Option (AV × Heap) := match ti with
  | some ti => if v.fits ti.size = true ∧ 0 < ti.size then some (.mp hp.length 1 0 0, hp ++ [.row [v] ti.size 0 0]) else none
  | none => none
theorem boxT_some {d : TypeDesc} {a : Bool} {n b : Nat} {z v : AV} : boxT (some ⟨d, a, n, b, z⟩) hp v = if v.fits n = true ∧ 0 < n then some (.mp hp.length 1 0 0, hp ++ [.row [v] n 0 0]) else none := rfl
theorem kBox {t : TypeId} {x : Operand} : opK E callF tm hp dst (.box t x) k hk = pK (boxT (E.ti t) hp (opnd E tm x)) tm dst k hk := bnd_p
theorem kBuild {t : TypeId} {ps : Array (Nat × Operand)} : opK E callF tm hp dst (.build t ps) k hk = vK (buildAV E t (ps.toList.map fun p => (p.1, opnd E tm p.2))) tm hp dst k hk := bnd_v
theorem kBuildSlice {t : TypeId} {n : Nat} {ps : Array (Nat × Operand)} : opK E callF tm hp dst (.buildSlice t n ps) k hk = pK (buildSliceAV E hp t n (ps.toList.map fun p => (p.1, opnd E tm p.2))) tm dst k hk := bnd_p
theorem kMakeFunc {g : FuncId} {caps : Array Operand} : opK E callF tm hp dst (.makeFunc (.func g) #[] caps) k hk = vK (some (.fn g (caps.toList.map (opnd E tm)))) tm hp dst k hk := rfl
theorem kSlice {t : TypeId} {x : Operand} {lo hi mx : Option Operand} : opK E callF tm hp dst (.slice t x lo hi mx) k hk = vK (sliceAV E hp t (opnd E tm x) (lo.map (opnd E tm)) (hi.map (opnd E tm)) (mx.map (opnd E tm))) tm hp dst k hk := bnd_v
def callV (E : Env) (callF : CallF) (hp : Heap) (v : AV) (as : List AV) : Option (AV × Heap) := match v with
  | .fn g caps => evCall E callF hp g (as ++ caps)
  | _ => none
theorem callV_fn {g : FuncId} {caps as : List AV} : callV E callF hp (.fn g caps) as = evCall E callF hp g (as ++ caps) := rfl
theorem kCall {x : Operand} {as : Array Operand} {ts : Array TypeId} : opK E callF tm hp dst (.call ⟨.value x, as, ts⟩) k hk = pK (callV E callF hp (opnd E tm x) (as.toList.map (opnd E tm))) tm dst k hk := by
  have e : evAny E callF tm hp (.call ⟨.value x, as, ts⟩) = callV E callF hp (opnd E tm x) (as.toList.map (opnd E tm)) := by
    show (match opnd E tm x with
      | .fn g caps => evCall E callF hp g (as.toList.map (opnd E tm) ++ caps)
      | _ => none) = _
    cases opnd E tm x <;> rfl
  show bnd ((evAny E callF tm hp (.call ⟨.value x, as, ts⟩)).map (stOf tm dst)) k ⟨⟩ = _
  rw [e]; exact bnd_p
theorem kBuiltin {b : Builtin} {as : Array Operand} {ts : Array TypeId} : opK E callF tm hp dst (.call ⟨.builtin b, as, ts⟩) k hk = pK (builtinAV E hp b ts.toList (as.toList.map (opnd E tm))) tm dst k hk := bnd_p
def onCall (callF : CallF) (hp : Heap) (g : FuncId) (pure : Bool) (as : Option (List AV)) : Option (AV × Heap) := match as with
  | some as' => match pureF callF g as' with
    | some r => if pure || r.scalar then some (r, hp) else none
    | none => none
  | none => none
def onRes (hp : Heap) (pure : Bool) (r : Option AV) : Option (AV × Heap) := match r with
  | some r => if pure || r.scalar then some (r, hp) else none
  | none => none
theorem onCall_some {g : FuncId} {p : Bool} {as : List AV} : onCall callF hp g p (some as) = onRes hp p (pureF callF g as) := rfl
theorem onRes_some {p : Bool} {r : AV} : onRes hp p (some r) = if p || r.scalar then some (r, hp) else none := rfl
theorem evCall_0 {g : FuncId} {as : List AV} (h : E.mode g = 0) : evCall E callF hp g as = onCall callF hp g (as.all AV.isPure) (mapO (resolve hp depth) as) := by
  unfold evCall onCall
  simp only [h]
  cases mapO (resolve hp depth) as <;> rfl

/-! Operands and values. -/
theorem oTmp {t : Nat} : opnd E tm (.tmp t) = tm.getD t .undef := rfl
theorem oInt {i : IntKind} {n : Int} : opnd E tm (.const (.int i n)) = .int i n := rfl
theorem oBool {b : Bool} : opnd E tm (.const (.bool b)) = .bool b := rfl
theorem oStr {b : ByteArray} : opnd E tm (.const (.string b)) = .str b.data.toList := rfl
theorem oNil : opnd E tm (.const (.slice none 0 0)) = .nils := rfl
theorem oNili : opnd E tm (.const .nilIface) = .nili := rfl
theorem oFunc {g : FuncId} : opnd E tm (.func g) = .fn g [] := rfl
theorem put_some {d : Nat} {v : AV} : putAV tm (some d) v = tm.set d v := rfl
theorem put_none {v : AV} : putAV tm none v = tm := rfl
theorem isC_const {v : Value} : isConst (.const v) = true := rfl
theorem isC_tmp {t : Nat} : isConst (.tmp t) = false := rfl
theorem bII {op : BinOp} {t : TypeId} {c : Bool} {i j : IntKind} {a b : Int} : binAV E op t c (.int i a) (.int j b) = binInt op i a j b := rfl
theorem bSS {op : BinOp} {t : TypeId} {c : Bool} {a b : List UInt8} : binAV E op t c (.str a) (.str b) = strBin op a b := rfl
theorem iEql {i : IntKind} {a b : Int} : binInt .eql i a i b = some (.bool (a == b)) := by simp [binInt, intBin]
theorem iNeq {i : IntKind} {a b : Int} : binInt .neq i a i b = some (.bool (a != b)) := by simp [binInt, intBin]
theorem iLss {i : IntKind} {a b : Int} : binInt .lss i a i b = some (.bool (decide (a < b))) := by simp [binInt, intBin]
theorem iLeq {i : IntKind} {a b : Int} : binInt .leq i a i b = some (.bool (decide (a ≤ b))) := by simp [binInt, intBin]
theorem iGtr {i : IntKind} {a b : Int} : binInt .gtr i a i b = some (.bool (decide (a > b))) := by simp [binInt, intBin]
theorem iGeq {i : IntKind} {a b : Int} : binInt .geq i a i b = some (.bool (decide (a ≥ b))) := by simp [binInt, intBin]
theorem iAdd {i : IntKind} {a b : Int} : binInt .add i a i b = some (.int i (i.wrap (a + b))) := by simp [binInt, intBin]
theorem iSub {i : IntKind} {a b : Int} : binInt .sub i a i b = some (.int i (i.wrap (a - b))) := by simp [binInt, intBin]
theorem sEql {a b : List UInt8} : strBin .eql a b = some (.bool (a == b)) := rfl
theorem sNeq {a b : List UInt8} : strBin .neq a b = some (.bool (!(a == b))) := rfl
theorem sLeq {a b : List UInt8} : strBin .leq a b = some (.bool (Op.bytesLess a b || a == b)) := rfl
theorem uNot {b : Bool} : unAV .not (.bool b) = some (.bool (!b)) := rfl

/-! Types. -/
def loadT (ti : Option TI) (e : Option AV) (o : Nat) : Option AV := match ti, e with
  | some ti, some e => readCells ti e.cells o
  | _, _ => none
theorem loadT_one {d : TypeDesc} {n b o : Nat} {z e : AV} : loadT (some ⟨d, false, n, b, z⟩) (some e) o = e.cells[o]? := rfl
theorem loadT_agg {d : TypeDesc} {n b o : Nat} {z e : AV} : loadT (some ⟨d, true, n, b, z⟩) (some e) o = if o + n ≤ e.cells.length then some (.agg ((e.cells.drop o).take n)) else none := rfl
def rowAt (h : Option HB) (g : Nat) : Option (List AV) := match h with
  | some (.row es _ wg _) => if wg ≤ g then some es else none
  | _ => none
theorem rowAt_row {es : List AV} {sz wg com g : Nat} : rowAt (some (.row es sz wg com)) g = if wg ≤ g then some es else none := rfl
theorem load_ip {t : TypeId} {es : List AV} {i o : Nat} : loadAV E hp t (.ip es i o) = loadT (E.ti t) es[i]? o := by
  unfold loadAV
  cases E.ti t with
  | none => rfl
  | some ti =>
    show (match es[i]? with
      | some e => readCells ti e.cells o
      | none => none) = loadT (some ti) es[i]? o
    cases es[i]? <;> rfl
theorem load_mp {t : TypeId} {b g i o : Nat} : loadAV E hp t (.mp b g i o) = loadT (E.ti t) ((rowAt hp[b]? g).bind fun es => es[i]?) o := by
  unfold loadAV
  cases E.ti t with
  | none => rfl
  | some ti =>
    show (match hp[b]? with
      | some (.row es _ wg _) => if wg ≤ g then match es[i]? with
        | some e => readCells ti e.cells o
        | none => none
      else none
      | _ => none) = loadT (some ti) ((rowAt hp[b]? g).bind fun es => es[i]?) o
    cases hp[b]? with
    | none => rfl
    | some h =>
      cases h with
      | row es sz wg com =>
        rw [rowAt_row]
        by_cases hw : wg ≤ g
        · simp only [hw, if_true, Option.bind_some]; cases es[i]? <;> rfl
        · simp only [hw, if_false, Option.bind_none]; rfl
      | sit s pos => rfl
theorem cells_agg {cs : List AV} : (AV.agg cs).cells = cs := rfl
theorem cells_int {i : IntKind} {n : Int} : (AV.int i n).cells = [.int i n] := rfl
theorem cells_str {s : List UInt8} : (AV.str s).cells = [.str s] := rfl
theorem cells_sl {s : List AV} : (AV.sl s).cells = [.sl s] := rfl
theorem fits_eq {n : Nat} {v : AV} : v.fits n = (v.cells.length == n && v.cells.all AV.one) := rfl
theorem one_int {i : IntKind} {n : Int} : (AV.int i n).one = true := rfl
theorem one_bool {b : Bool} : (AV.bool b).one = true := rfl
theorem one_str {s : List UInt8} : (AV.str s).one = true := rfl
theorem one_sl {s : List AV} : (AV.sl s).one = true := rfl
theorem one_nils : AV.nils.one = true := rfl
theorem pure_int {i : IntKind} {n : Int} : (AV.int i n).isPure = true := by simp [AV.isPure]
theorem pure_bool {b : Bool} : (AV.bool b).isPure = true := by simp [AV.isPure]
theorem pure_str {s : List UInt8} : (AV.str s).isPure = true := by simp [AV.isPure]
theorem pure_sl {s : List AV} : (AV.sl s).isPure = true := by simp [AV.isPure]
theorem pure_ip {s : List AV} {i o : Nat} : (AV.ip s i o).isPure = true := by simp [AV.isPure]
theorem pure_nils : AV.nils.isPure = true := by simp [AV.isPure]
theorem pure_nili : AV.nili.isPure = true := by simp [AV.isPure]
theorem pure_mp {b g i o : Nat} : (AV.mp b g i o).isPure = false := by simp [AV.isPure]
theorem pure_fn {g : FuncId} {caps : List AV} : (AV.fn g caps).isPure = caps.all AV.isPure := by
  have : ∀ l : List AV, AV.isPure.allPure l = l.all AV.isPure := by
    intro l
    induction l with
    | nil => rfl
    | cons v l ih => simp [AV.isPure.allPure, ih]
  simp [AV.isPure, this]
theorem pure_agg {cs : List AV} : (AV.agg cs).isPure = cs.all AV.isPure := by
  have : ∀ l : List AV, AV.isPure.allPure l = l.all AV.isPure := by
    intro l
    induction l with
    | nil => rfl
    | cons v l ih => simp [AV.isPure.allPure, ih]
  simp [AV.isPure, this]
theorem scalar_int {i : IntKind} {n : Int} : (AV.int i n).scalar = true := by simp [AV.scalar]
theorem scalar_bool {b : Bool} : (AV.bool b).scalar = true := by simp [AV.scalar]

theorem natOf_nat {i : IntKind} {n : Nat} : natOf (.int i (n : Int)) = some n := by simp [natOf]
theorem natOf_zero {i : IntKind} : natOf (.int i 0) = some 0 := rfl
def lenT (ti : Option TI) (x : AV) : Option AV := match ti with
  | some ti => match ti.desc, x with
    | .string, .str s => some (.int .i64 s.length)
    | .slice _, .sl es => some (.int .i64 es.length)
    | .slice _, .ms _ _ _ n => some (.int .i64 n)
    | .slice _, .nils => some (.int .i64 0)
    | .slice _, .z0 => some (.int .i64 0)
    | .array n _, _ => some (.int .i64 n)
    | _, _ => none
  | none => none
theorem len_call {t : TypeId} {x : AV} : builtinAV E hp .len [t] [x] = (lenT (E.ti t) x).map (·, hp) := rfl
theorem len_sl {e : TypeId} {a : Bool} {n b : Nat} {z : AV} {es : List AV} : lenT (some ⟨.slice e, a, n, b, z⟩) (.sl es) = some (.int .i64 es.length) := rfl
theorem len_str {a : Bool} {n b : Nat} {z : AV} {s : List UInt8} : lenT (some ⟨.string, a, n, b, z⟩) (.str s) = some (.int .i64 s.length) := rfl
def fldT (fo : Option (Nat × TI)) (x : AV) : Option AV := match fo, x with
  | some (o', _), .ip es i o => some (.ip es i (o + o'))
  | some (o', _), .mp b g i o => some (.mp b g i (o + o'))
  | _, _ => none
theorem fa_eq {t : TypeId} {x : AV} {n : Nat} : fieldAddrAV E t x n = fldT (fieldOf E t n) x := by
  unfold fieldAddrAV fldT
  cases fieldOf E t n with
  | none => rfl
  | some p => cases x <;> rfl
theorem fld_ip {o' : Nat} {ti : TI} {es : List AV} {i o : Nat} : fldT (some (o', ti)) (.ip es i o) = some (.ip es i (o + o')) := rfl
theorem fld_mp {o' : Nat} {ti : TI} {b g i o : Nat} : fldT (some (o', ti)) (.mp b g i o) = some (.mp b g i (o + o')) := rfl
def idxSl (te : Option TI) (es : List AV) (i : Nat) (v : Option AV) : Option AV := match te, v with
  | some te, some v => if v.cells.length = te.size then some (.ip es i 0) else none
  | _, _ => none
theorem idxSl_some {d : TypeDesc} {a : Bool} {n b : Nat} {z v : AV} {es : List AV} {i : Nat} : idxSl (some ⟨d, a, n, b, z⟩) es i (some v) = if v.cells.length = n then some (.ip es i 0) else none := rfl
def idxT (E : Env) (ti : Option TI) (x : AV) (ix : Option Nat) : Option AV := match ti, ix with
  | some ti, some i => match ti.desc, x with
    | .slice e, .sl es => idxSl (E.ti e) es i es[i]?
    | _, _ => none
  | _, _ => none
theorem idxT_sl {e : TypeId} {a : Bool} {n b : Nat} {z : AV} {es : List AV} {i : Nat} : idxT E (some ⟨.slice e, a, n, b, z⟩) (.sl es) (some i) = idxSl (E.ti e) es i es[i]? := rfl
theorem ia_sl {t : TypeId} {es : List AV} {ix : AV} : indexAddrAV E hp t (.sl es) ix = idxT E (E.ti t) (.sl es) (natOf ix) := by
  unfold indexAddrAV idxT
  cases E.ti t with
  | none => rfl
  | some ti =>
    cases natOf ix with
    | none => rfl
    | some i =>
      obtain ⟨d, a, n, b, z⟩ := ti
      cases d <;> rfl
def idxStr (v : Option UInt8) : Option AV := v.map fun b => .int .u8 b.toNat
theorem idxStr_some {b : UInt8} : idxStr (some b) = some (.int .u8 b.toNat) := rfl
def idxT' (ti : Option TI) (s : List UInt8) (ix : Option Nat) : Option AV := match ti, ix with
  | some ti, some i => match ti.desc with
    | .string => idxStr s[i]?
    | _ => none
  | _, _ => none
theorem idxT'_str {a : Bool} {n b : Nat} {z : AV} {s : List UInt8} {i : Nat} : idxT' (some ⟨.string, a, n, b, z⟩) s (some i) = idxStr s[i]? := rfl
theorem ix_str {t : TypeId} {s : List UInt8} {ix : AV} : indexAV E t (.str s) ix = idxT' (E.ti t) s (natOf ix) := by
  unfold indexAV idxT'
  cases E.ti t with
  | none => rfl
  | some ti =>
    cases natOf ix with
    | none => rfl
    | some i =>
      obtain ⟨d, a, n, b, z⟩ := ti
      cases d <;> rfl
def stoT (ti : Option TI) (hp : Heap) (b g i o : Nat) (v : AV) (h : Option HB) : Option Heap := match ti, h with
  | some ti, some (.row es sz _ com) =>
      if g = es.length ∧ com ≤ i ∧ v.fits ti.size = true ∧ 0 < ti.size then match es[i]? with
        | some e => if o + ti.size ≤ e.cells.length then some (hp.set b (.row (es.set i (writeCells e o v.cells)) sz g com)) else none
        | none => none
      else none
  | _, _ => none
theorem sto_eq {t : TypeId} {b g i o : Nat} {v : AV} : storeAV E hp t (.mp b g i o) v = stoT (E.ti t) hp b g i o v hp[b]? := by
  unfold storeAV
  cases E.ti t with
  | none => rfl
  | some ti =>
    show (match hp[b]? with
      | some (.row es sz _ com) =>
        if g = es.length ∧ com ≤ i ∧ v.fits ti.size = true ∧ 0 < ti.size then match es[i]? with
          | some e => if o + ti.size ≤ e.cells.length then some (hp.set b (.row (es.set i (writeCells e o v.cells)) sz g com)) else none
          | none => none
        else none
      | _ => none) = stoT (some ti) hp b g i o v hp[b]?
    cases hp[b]? with
    | none => rfl
    | some h => cases h <;> rfl
/-- A variable of one element, stored whole. -/
theorem sto_one {d : TypeDesc} {a : Bool} {n b' b : Nat} {z e v : AV} {sz wg : Nat} (hv : v.fits n = true) (hn : 0 < n) (he : n ≤ e.cells.length) (hw : writeCells e 0 v.cells = v) :
    stoT (some ⟨d, a, n, b', z⟩) hp b 1 0 0 v (some (.row [e] sz wg 0)) = some (hp.set b (.row [v] sz 1 0)) := by
  simp [stoT, hv, hn, he, hw]
theorem write_agg {cs vs : List AV} (h : vs.length = cs.length) : writeCells (.agg cs) 0 vs = .agg vs := by
  simp [writeCells, h]
theorem write_int {i : IntKind} {n : Int} {v : AV} {r : List AV} : writeCells (.int i n) 0 (v :: r) = v := rfl
theorem write_str {s : List UInt8} {v : AV} {r : List AV} : writeCells (.str s) 0 (v :: r) = v := rfl
theorem write_bool {s : Bool} {v : AV} {r : List AV} : writeCells (.bool s) 0 (v :: r) = v := rfl
/-! Handing on. -/
theorem res_int {d : Nat} {i : IntKind} {n : Int} : resolve hp (d + 1) (.int i n) = some (.int i n) := by simp [resolve]
theorem res_bool {d : Nat} {b : Bool} : resolve hp (d + 1) (.bool b) = some (.bool b) := by simp [resolve]
theorem res_str {d : Nat} {s : List UInt8} : resolve hp (d + 1) (.str s) = some (.str s) := by simp [resolve]
theorem res_sl {d : Nat} {s : List AV} : resolve hp (d + 1) (.sl s) = some (.sl s) := by simp [resolve]
theorem res_ip {d : Nat} {s : List AV} {i o : Nat} : resolve hp (d + 1) (.ip s i o) = some (.ip s i o) := by simp [resolve]
theorem res_agg {d : Nat} {s : List AV} : resolve hp (d + 1) (.agg s) = (many (resolve hp d) s).map .agg := by simp [resolve]
theorem res_tup {d : Nat} {s : List AV} : resolve hp (d + 1) (.tup s) = (many (resolve hp d) s).map .tup := by simp [resolve]
theorem res_fn {d : Nat} {g : FuncId} {s : List AV} : resolve hp (d + 1) (.fn g s) = (many (resolve hp d) s).map (.fn g) := by simp [resolve]
theorem res_mp {d b g i o : Nat} : resolve hp (d + 1) (.mp b g i o) = ((rowAt hp[b]? g).bind fun es => many (resolve hp d) (es.take g)).map (.ip · i o) := by
  unfold resolve rowAt
  simp only
  cases hp[b]? with
  | none => rfl
  | some h =>
    cases h with
    | row es sz wg com =>
      by_cases hw : wg ≤ g
      · simp [hw]
      · simp [hw]
    | sit s pos => rfl
theorem many_eq {g : AV → Option AV} {l : List AV} : many g l = if l.all AV.isPure then some l else mapO g l := rfl
theorem depth_eq : depth = 11 + 1 := rfl
theorem mapO_nil {β γ : Type} {g : β → Option γ} : mapO g [] = some [] := rfl
def consO {γ : Type} (a : Option γ) (b : Option (List γ)) : Option (List γ) := match a, b with
  | some a, some b => some (a :: b)
  | _, _ => none
theorem consO_some {γ : Type} {a : γ} {b : List γ} : consO (some a) (some b) = some (a :: b) := rfl
theorem mapO_cons {β γ : Type} {g : β → Option γ} {a : β} {l : List β} : mapO g (a :: l) = consO (g a) (mapO g l) := by
  rw [mapO]
  cases g a <;> cases mapO g l <;> rfl
def resV (v : Option (List AV)) (hp : Heap) : Option (AV × Heap) := match v with
  | some [v] => some (v, hp)
  | some vs => some (.tup vs, hp)
  | none => none
theorem resK_eq {rs : List ResultVar} : resK E rs ⟨tm, hp⟩ = resV (mapO (resultAV E ⟨tm, hp⟩) rs) hp := by
  unfold resK resV
  cases mapO (resultAV E ⟨tm, hp⟩) rs with
  | none => rfl
  | some l => match l with
    | [] => rfl
    | [_] => rfl
    | _ :: _ :: _ => rfl
theorem resV_one {v : AV} : resV (some [v]) hp = some (v, hp) := rfl
theorem resV_two {v w : AV} : resV (some [v, w]) hp = some (.tup [v, w], hp) := rfl
theorem rTmp {t : Nat} : resultAV E ⟨tm, hp⟩ (.tmp t) = some (tm.getD t .undef) := rfl

/-! Code. -/
variable {pl : Plan} {cur : Nat} {st : St} {kn : St → Option α} {kx : Nat → St → Option α} {kr : St → Option α} {h1 : Hid kn} {h2 : Hid kx} {h3 : Hid kr}
theorem cSkip : codeK E callF it f pl cur .skip st kn kx kr h1 h2 h3 = kn st := rfl
theorem cRegion {i : Nat} {ops : List Oper} {dr : Bool} : codeK E callF it f pl cur (.region i ops.toArray dr) st kn kx kr h1 h2 h3 = regK E callF (pl i) ops st kn ⟨⟩ := rfl
theorem cSeq {a b : Code} : codeK E callF it f pl cur (.seq a b) st kn kx kr h1 h2 h3 = codeK E callF it f pl cur a st (fun st' => codeK E callF it f pl cur b st' kn kx kr ⟨⟩ ⟨⟩ ⟨⟩) kx kr ⟨⟩ ⟨⟩ ⟨⟩ := rfl
theorem cCond {c : Operand} {a b : Code} : codeK E callF it f pl cur (.cond c a b) ⟨tm, hp⟩ kn kx kr h1 h2 h3 = onB (opnd E tm c) (fun x => sw x (fun _ => codeK E callF it f pl cur a ⟨tm, hp⟩ kn kx kr ⟨⟩ ⟨⟩ ⟨⟩) (fun _ => codeK E callF it f pl cur b ⟨tm, hp⟩ kn kx kr ⟨⟩ ⟨⟩ ⟨⟩) ⟨⟩ ⟨⟩) ⟨⟩ := rfl
theorem cBlock {id : Nat} {b : Code} : codeK E callF it f pl cur (.block id b) st kn kx kr h1 h2 h3 = codeK E callF it f pl id b st kn (exitK id kn kx) kr ⟨⟩ ⟨⟩ ⟨⟩ := rfl
theorem cLoop {b : Code} : codeK E callF it f pl cur (.loop b) st kn kx kr h1 h2 h3 = loopK (loopAt E callF it f cur b st) kn kx kr ⟨⟩ ⟨⟩ ⟨⟩ := rfl
theorem cExit {id : Nat} : codeK E callF it f pl cur (.exit id) st kn kx kr h1 h2 h3 = kx id st := rfl
theorem cRet : codeK E callF it f pl cur .ret st kn kx kr h1 h2 h3 = kr st := rfl
theorem bodyK_eq {c : Code} {n : Nat} {rs : List ResultVar} {as : List AV} : bodyK E callF it f pl c n rs as hp = codeK E callF it f pl 0 c ⟨as ++ List.replicate (n - as.length) (.tup []), hp⟩ (resK E rs) (fun _ _ => none) (resK E rs) ⟨⟩ ⟨⟩ ⟨⟩ := rfl
theorem reg_none {all : List Oper} : regK E callF none all st k hk = opsK E callF all all st k ⟨⟩ := rfl
theorem reg_some {all : List Oper} {l : List (Nat × List Nat)} : regK E callF (some l) all st k hk = bnd (hoist E all st) (fun st => planK E callF all l st k ⟨⟩) ⟨⟩ := rfl
theorem plan_nil {all : List Oper} : planK E callF all [] st k hk = k st := rfl
theorem plan_cons {all : List Oper} {i : Nat} {conf : List Nat} {r : List (Nat × List Nat)} : planK E callF all ((i, conf) :: r) st k hk = atO E callF all all[i]? conf st (fun st => planK E callF all r st k ⟨⟩) ⟨⟩ := rfl
def thenO {α : Type} (b : Bool) (x : Unit → Option α) (_ : Hid x) : Option α := if b then x () else none
theorem then_true {α : Type} {x : Unit → Option α} {h : Hid x} : thenO true x h = x () := rfl
theorem atO_some {all : List Oper} {conf : List Nat} {op : Op} {ty : TypeId} {pos : String} {after : Array Edge} :
    atO E callF all (some ⟨dst, op, ty, pos, after, none⟩) conf ⟨tm, hp⟩ k hk = thenO (safeB E tm conf ⟨dst, op, ty, pos, after, none⟩) (fun _ => opK E callF tm hp dst op k ⟨⟩) ⟨⟩ := rfl
theorem safe_nil {o : Oper} : safeB E tm [] o = true := by simp [safeB]
theorem safe_ne {o : Oper} {conf : List Nat} (h : (opKind E o == 1) = false) : safeB E tm conf o = true := by simp [safeB, h]
theorem safe_all {o : Oper} {conf : List Nat} (h : conf.all (safeOp E tm o) = true) : safeB E tm conf o = true := by simp [safeB, h]
def hoistT (ti : Option TI) (d : Nat) (st : St) (h : St → Option St) (_ : Hid h) : Option St := match ti with
  | some ti => if ti.zero.fits ti.size = true ∧ 0 < ti.size ∧ d < st.tm.length then h ⟨st.tm.set d (.mp st.hp.length 1 0 0), st.hp ++ [.row [ti.zero] ti.size 0 0]⟩ else none
  | none => none
theorem hoist_nil : hoist E [] st = some st := rfl
theorem hoist_alloc {t : TypeId} {d : Nat} {ty : TypeId} {pos : String} {after : Array Edge} {os : List Oper} : hoist E (⟨some d, .alloc t, ty, pos, after, none⟩ :: os) st = hoistT (E.ti t) d st (hoist E os) ⟨⟩ := by
  rw [hoist]
  simp [isAlloc, hoistT]
  cases E.ti t <;> rfl
theorem hoist_skip {o : Oper} {os : List Oper} (h : isAlloc o = false) : hoist E (o :: os) st = hoist E os st := by
  rw [hoist]
  simp [h]
theorem kd_move {dst : Option Tmp} {ty : TypeId} {pos : String} {after : Array Edge} {g : Option (Nat × Bool)} {x : Operand} : opKind E ⟨dst, .move x, ty, pos, after, g⟩ = 0 := rfl
theorem na_move {dst : Option Tmp} {ty : TypeId} {pos : String} {after : Array Edge} {g : Option (Nat × Bool)} {x : Operand} : isAlloc ⟨dst, .move x, ty, pos, after, g⟩ = false := rfl
theorem kd_assign {dst : Option Tmp} {ty : TypeId} {pos : String} {after : Array Edge} {g : Option (Nat × Bool)} {x : Operand} : opKind E ⟨dst, .assign x, ty, pos, after, g⟩ = 0 := rfl
theorem na_assign {dst : Option Tmp} {ty : TypeId} {pos : String} {after : Array Edge} {g : Option (Nat × Bool)} {x : Operand} : isAlloc ⟨dst, .assign x, ty, pos, after, g⟩ = false := rfl
theorem kd_pick {dst : Option Tmp} {ty : TypeId} {pos : String} {after : Array Edge} {g : Option (Nat × Bool)} {c a b : Operand} : opKind E ⟨dst, .pick c a b, ty, pos, after, g⟩ = 0 := rfl
theorem na_pick {dst : Option Tmp} {ty : TypeId} {pos : String} {after : Array Edge} {g : Option (Nat × Bool)} {c a b : Operand} : isAlloc ⟨dst, .pick c a b, ty, pos, after, g⟩ = false := rfl
theorem kd_bin {dst : Option Tmp} {ty : TypeId} {pos : String} {after : Array Edge} {g : Option (Nat × Bool)} {b : BinOp} {t : TypeId} {x y : Operand} {u : TypeId} : opKind E ⟨dst, .binOp b t x y u, ty, pos, after, g⟩ = 0 := rfl
theorem na_bin {dst : Option Tmp} {ty : TypeId} {pos : String} {after : Array Edge} {g : Option (Nat × Bool)} {b : BinOp} {t : TypeId} {x y : Operand} {u : TypeId} : isAlloc ⟨dst, .binOp b t x y u, ty, pos, after, g⟩ = false := rfl
theorem kd_un {dst : Option Tmp} {ty : TypeId} {pos : String} {after : Array Edge} {g : Option (Nat × Bool)} {b : UnOp} {t : TypeId} {x : Operand} : opKind E ⟨dst, .unOp b t x, ty, pos, after, g⟩ = 0 := rfl
theorem na_un {dst : Option Tmp} {ty : TypeId} {pos : String} {after : Array Edge} {g : Option (Nat × Bool)} {b : UnOp} {t : TypeId} {x : Operand} : isAlloc ⟨dst, .unOp b t x, ty, pos, after, g⟩ = false := rfl
theorem kd_load {dst : Option Tmp} {ty : TypeId} {pos : String} {after : Array Edge} {g : Option (Nat × Bool)} {t : TypeId} {i : Nat} : opKind E ⟨dst, .load t (.tmp i), ty, pos, after, g⟩ = 1 := rfl
theorem na_load {dst : Option Tmp} {ty : TypeId} {pos : String} {after : Array Edge} {g : Option (Nat × Bool)} {t : TypeId} {i : Nat} : isAlloc ⟨dst, .load t (.tmp i), ty, pos, after, g⟩ = false := rfl
theorem kd_store {dst : Option Tmp} {ty : TypeId} {pos : String} {after : Array Edge} {g : Option (Nat × Bool)} {t : TypeId} {x y : Operand} : opKind E ⟨dst, .store t x y, ty, pos, after, g⟩ = 2 := rfl
theorem na_store {dst : Option Tmp} {ty : TypeId} {pos : String} {after : Array Edge} {g : Option (Nat × Bool)} {t : TypeId} {x y : Operand} : isAlloc ⟨dst, .store t x y, ty, pos, after, g⟩ = false := rfl
theorem kd_fa {dst : Option Tmp} {ty : TypeId} {pos : String} {after : Array Edge} {g : Option (Nat × Bool)} {t : TypeId} {x : Operand} {n : Nat} : opKind E ⟨dst, .fieldAddr t x n, ty, pos, after, g⟩ = 0 := rfl
theorem na_fa {dst : Option Tmp} {ty : TypeId} {pos : String} {after : Array Edge} {g : Option (Nat × Bool)} {t : TypeId} {x : Operand} {n : Nat} : isAlloc ⟨dst, .fieldAddr t x n, ty, pos, after, g⟩ = false := rfl
theorem kd_fld {dst : Option Tmp} {ty : TypeId} {pos : String} {after : Array Edge} {g : Option (Nat × Bool)} {t : TypeId} {x : Operand} {n : Nat} : opKind E ⟨dst, .field t x n, ty, pos, after, g⟩ = 0 := rfl
theorem na_fld {dst : Option Tmp} {ty : TypeId} {pos : String} {after : Array Edge} {g : Option (Nat × Bool)} {t : TypeId} {x : Operand} {n : Nat} : isAlloc ⟨dst, .field t x n, ty, pos, after, g⟩ = false := rfl
theorem kd_ia {dst : Option Tmp} {ty : TypeId} {pos : String} {after : Array Edge} {g : Option (Nat × Bool)} {t : TypeId} {x y : Operand} : opKind E ⟨dst, .indexAddr t x y, ty, pos, after, g⟩ = 1 := rfl
theorem na_ia {dst : Option Tmp} {ty : TypeId} {pos : String} {after : Array Edge} {g : Option (Nat × Bool)} {t : TypeId} {x y : Operand} : isAlloc ⟨dst, .indexAddr t x y, ty, pos, after, g⟩ = false := rfl
theorem kd_ix {dst : Option Tmp} {ty : TypeId} {pos : String} {after : Array Edge} {g : Option (Nat × Bool)} {t : TypeId} {x y : Operand} : opKind E ⟨dst, .index t x y, ty, pos, after, g⟩ = 0 := rfl
theorem na_ix {dst : Option Tmp} {ty : TypeId} {pos : String} {after : Array Edge} {g : Option (Nat × Bool)} {t : TypeId} {x y : Operand} : isAlloc ⟨dst, .index t x y, ty, pos, after, g⟩ = false := rfl
theorem kd_ex {dst : Option Tmp} {ty : TypeId} {pos : String} {after : Array Edge} {g : Option (Nat × Bool)} {x : Operand} {n : Nat} : opKind E ⟨dst, .extract x n, ty, pos, after, g⟩ = 0 := rfl
theorem na_ex {dst : Option Tmp} {ty : TypeId} {pos : String} {after : Array Edge} {g : Option (Nat × Bool)} {x : Operand} {n : Nat} : isAlloc ⟨dst, .extract x n, ty, pos, after, g⟩ = false := rfl
theorem kd_len {dst : Option Tmp} {ty : TypeId} {pos : String} {after : Array Edge} {g : Option (Nat × Bool)} {as : Array Operand} {ts : Array TypeId} : opKind E ⟨dst, .call ⟨.builtin .len, as, ts⟩, ty, pos, after, g⟩ = 0 := rfl
theorem na_len {dst : Option Tmp} {ty : TypeId} {pos : String} {after : Array Edge} {g : Option (Nat × Bool)} {as : Array Operand} {ts : Array TypeId} : isAlloc ⟨dst, .call ⟨.builtin .len, as, ts⟩, ty, pos, after, g⟩ = false := rfl
theorem kd_box {dst : Option Tmp} {ty : TypeId} {pos : String} {after : Array Edge} {g : Option (Nat × Bool)} {t : TypeId} {x : Operand} : opKind E ⟨dst, .box t x, ty, pos, after, g⟩ = 2 := rfl
theorem na_box {dst : Option Tmp} {ty : TypeId} {pos : String} {after : Array Edge} {g : Option (Nat × Bool)} {t : TypeId} {x : Operand} : isAlloc ⟨dst, .box t x, ty, pos, after, g⟩ = false := rfl
def safeV (E : Env) (tm : List AV) (o : Oper) (v : Option AV) : Bool := match v with
  | some (.mp b _ _ _) => match o.op with
    | .call c => c.args.toList.all fun x => (opnd E tm x).isPure
    | op => op.operands.toList.all fun x => (opnd E tm x).avoids b
  | _ => false
theorem safeOp_eq {o : Oper} {d : Nat} : safeOp E tm o d = safeV E tm o tm[d]? := rfl
theorem safe_load {dst : Option Tmp} {ty : TypeId} {pos : String} {after : Array Edge} {g : Option (Nat × Bool)} {t : TypeId} {x : Operand} {b i j n : Nat} : safeV E tm ⟨dst, .load t x, ty, pos, after, g⟩ (some (.mp b i j n)) = (opnd E tm x).avoids b := by simp [safeV, Op.operands]
theorem safe_ia {dst : Option Tmp} {ty : TypeId} {pos : String} {after : Array Edge} {g : Option (Nat × Bool)} {t : TypeId} {x y : Operand} {b i j n : Nat} : safeV E tm ⟨dst, .indexAddr t x y, ty, pos, after, g⟩ (some (.mp b i j n)) = ((opnd E tm x).avoids b && (opnd E tm y).avoids b) := by simp [safeV, Op.operands]
theorem av_mp {b b' i j n : Nat} : (AV.mp b' i j n).avoids b = (b' != b) := rfl
theorem av_ip {b : Nat} {es : List AV} {j n : Nat} : (AV.ip es j n).avoids b = true := by simp [AV.avoids, AV.isPure]
theorem av_sl {b : Nat} {es : List AV} : (AV.sl es).avoids b = true := by simp [AV.avoids, AV.isPure]
theorem av_int {b : Nat} {i : IntKind} {n : Int} : (AV.int i n).avoids b = true := by simp [AV.avoids, AV.isPure]
theorem hoistT_some {d : TypeDesc} {a : Bool} {n b s : Nat} {z : AV} {h : St → Option St} {hh : Hid h} : hoistT (some ⟨d, a, n, b, z⟩) s ⟨tm, hp⟩ h hh = if z.fits n = true ∧ 0 < n ∧ s < tm.length then h ⟨tm.set s (.mp hp.length 1 0 0), hp ++ [.row [z] n 0 0]⟩ else none := rfl
def normO (v : Option AV) : Option AV := v.map AV.norm
theorem normO_some {v : AV} : normO (some v) = some v.norm := rfl
def resPV (v : Option (List AV)) (hp : Heap) : Option AV := match v with
  | some [v] => normO (resolve hp depth v)
  | some vs => normO (resolve hp depth (.tup vs))
  | none => none
theorem resP_eq {rs : List ResultVar} : resP E rs ⟨tm, hp⟩ = resPV (mapO (resultAV E ⟨tm, hp⟩) rs) hp := by
  unfold resP resPV
  cases mapO (resultAV E ⟨tm, hp⟩) rs with
  | none => rfl
  | some l => match l with
    | [] => rfl
    | [_] => rfl
    | _ :: _ :: _ => rfl
theorem resPV_one {v : AV} : resPV (some [v]) hp = normO (resolve hp depth v) := rfl
theorem resPV_two {v w : AV} : resPV (some [v, w]) hp = normO (resolve hp depth (.tup [v, w])) := rfl
theorem n_bool {b : Bool} : (AV.bool b).norm = .bool b := rfl
theorem n_int {i : IntKind} {n : Int} : (AV.int i n).norm = .int i n := rfl
theorem n_str {s : List UInt8} : (AV.str s).norm = .str s := rfl
theorem n_nils : AV.nils.norm = .sl [] := rfl
theorem n_z0 : AV.z0.norm = .sl [] := rfl
theorem n_nili : AV.nili.norm = .nili := rfl
theorem n_agg {l : List AV} : (AV.agg l).norm = .agg (AV.norm.normL l) := by simp [AV.norm]
theorem n_tup {l : List AV} : (AV.tup l).norm = .tup (AV.norm.normL l) := by simp [AV.norm]
theorem n_sl {l : List AV} : (AV.sl l).norm = .sl (AV.norm.normL l) := by simp [AV.norm]
theorem n_ip {l : List AV} {i o : Nat} : (AV.ip l i o).norm = .ip (AV.norm.normL l) i o := by simp [AV.norm]
theorem n_fn {g : FuncId} {l : List AV} : (AV.fn g l).norm = .fn g (AV.norm.normL l) := by simp [AV.norm]
theorem nL_nil : AV.norm.normL [] = [] := rfl
theorem nL_cons {v : AV} {l : List AV} : AV.norm.normL (v :: l) = v.norm :: AV.norm.normL l := by simp [AV.norm.normL]
end Go.EV
