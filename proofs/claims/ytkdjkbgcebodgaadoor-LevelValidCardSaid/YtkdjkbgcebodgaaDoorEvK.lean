/-
  The evaluator in the form that the simplifier can run: what comes after stands as a function, and only what is looked at next is simplified. Regions that draw, but make no variable, run in the order of their text.
-/
import Derived.Test.YtkdjkbgcebodgaaDoorEvE
set_option linter.unusedSimpArgs false
set_option linter.unusedVariables false
namespace Go.EV
variable {E : Env} {callF : CallF} {it : Iter} {f : FuncId}

/-- It keeps the simplifier out of what comes after. -/
structure Hid {α : Type} (a : α) : Type where
  mk ::
def sw {α : Type} (b : Bool) (x y : Unit → Option α) (_ : Hid x) (_ : Hid y) : Option α := match b with
  | true => x ()
  | false => y ()
theorem sw_true {α : Type} (x y : Unit → Option α) (h : Hid x) (h' : Hid y) : sw true x y h h' = x () := rfl
theorem sw_false {α : Type} (x y : Unit → Option α) (h : Hid x) (h' : Hid y) : sw false x y h h' = y () := rfl
theorem sw_not {α : Type} (b : Bool) (x y : Unit → Option α) (h : Hid x) (h' : Hid y) : sw (!b) x y h h' = sw b y x h' h := by cases b <;> rfl
theorem sw_cases {α : Type} {b : Bool} {x y : Unit → Option α} {h : Hid x} {h' : Hid y} {r : Option α} (h1 : b = true → x () = r) (h2 : b = false → y () = r) : sw b x y h h' = r := by
  cases b
  · exact h2 rfl
  · exact h1 rfl
def bnd {α β : Type} (x : Option α) (k : α → Option β) (_ : Hid k) : Option β := match x with
  | some a => k a
  | none => none
theorem bnd_some {α β : Type} (a : α) (k : α → Option β) (h : Hid k) : bnd (some a) k h = k a := rfl
theorem bnd_none {α β : Type} (k : α → Option β) (h : Hid k) : bnd none k h = none := rfl
def onB {β : Type} (x : AV) (k : Bool → Option β) (_ : Hid k) : Option β := match x with
  | .bool b => k b
  | _ => none
theorem onB_bool {β : Type} (b : Bool) (k : Bool → Option β) (h : Hid k) : onB (.bool b) k h = k b := rfl
/-- How a guard stands: it holds, it does not, or as a truth value says. -/
inductive GV where
  | yes | no | as (b : Bool)
def gvOf (all : List Oper) (tm : List AV) (o : Oper) : Option GV :=
  match o.guard with
  | none => some .yes
  | some (j, want) => match (all[j]?).bind (·.dst) with
    | none => some .no
    | some d => match tm[d]? with
      | some (.bool b) => some (.as (b == want))
      | some (.tup []) => some .no
      | _ => none
def onG {α : Type} (g : Option GV) (x y : Unit → Option α) (hx : Hid x) (hy : Hid y) : Option α := match g with
  | some .yes => x ()
  | some .no => y ()
  | some (.as b) => sw b x y hx hy
  | none => none
theorem onG_yes {α : Type} (x y : Unit → Option α) (hx : Hid x) (hy : Hid y) : onG (some .yes) x y hx hy = x () := rfl
theorem onG_no {α : Type} (x y : Unit → Option α) (hx : Hid x) (hy : Hid y) : onG (some .no) x y hx hy = y () := rfl
theorem onG_as {α : Type} (b : Bool) (x y : Unit → Option α) (hx : Hid x) (hy : Hid y) : onG (some (.as b)) x y hx hy = sw b x y hx hy := rfl

def stOf (tm : List AV) (d : Option Tmp) (p : AV × Heap) : St := ⟨putAV tm d p.1, p.2⟩
/-- One operation, whose guard holds. -/
def opK (E : Env) (callF : CallF) (tm : List AV) (hp : Heap) (dst : Option Tmp) (op : Op) {α : Type} (k : St → Option α) (hk : Hid k) : Option α :=
  match op with
  | .pick c a b => onB (opnd E tm c) (fun x => sw x (fun _ => bnd (some (St.mk (putAV tm dst (opnd E tm a)) hp)) k ⟨⟩) (fun _ => bnd (some (St.mk (putAV tm dst (opnd E tm b)) hp)) k ⟨⟩) ⟨⟩ ⟨⟩) ⟨⟩
  | op => bnd ((evAny E callF tm hp op).map (stOf tm dst)) k ⟨⟩
def opsK (E : Env) (callF : CallF) (all : List Oper) {α : Type} : List Oper → St → (k : St → Option α) → Hid k → Option α
  | [], st, k, _ => k st
  | o :: os, st, k, _ =>
    onG (gvOf all st.tm o) (fun _ => opK E callF st.tm st.hp o.dst o.op (fun st => opsK E callF all os st k ⟨⟩) ⟨⟩)
      (fun _ => bnd (some (St.mk (putAV st.tm o.dst (.tup [])) st.hp)) (fun st => opsK E callF all os st k ⟨⟩) ⟨⟩) ⟨⟩ ⟨⟩

theorem opK_eq {tm : List AV} {hp : Heap} {dst : Option Tmp} {op : Op} {α : Type} {k : St → Option α} (hk : Hid k) :
    opK E callF tm hp dst op k hk = match evAny E callF tm hp op with
      | some (v, hp) => k ⟨putAV tm dst v, hp⟩
      | none => none := by
  unfold opK
  split
  · rename_i c a b
    simp only [evAny, evOp]
    unfold onB
    split
    · rename_i x hx
      cases x <;> simp only [hx] <;> rfl
    · rename_i hx
      split
      · rename_i v hp' he
        split at he <;> simp_all
      · rfl
  · cases evAny E callF tm hp op <;> rfl
theorem opsK_eq {all : List Oper} {α : Type} : ∀ (l : List Oper) (st : St) (k : St → Option α) (hk : Hid k),
    opsK E callF all l st k hk = match evOps E callF all l st with
      | some st => k st
      | none => none
  | [], st, k, _ => rfl
  | o :: os, st, k, hk => by
    have ih : ∀ st (k : St → Option α) (hk : Hid k), opsK E callF all os st k hk = match evOps E callF all os st with
      | some st => k st
      | none => none := fun st k hk => opsK_eq os st k hk
    have skip : (bnd (some (St.mk (putAV st.tm o.dst (.tup [])) st.hp)) (fun st => opsK E callF all os st k ⟨⟩) ⟨⟩) = match evOps E callF all os ⟨putAV st.tm o.dst (.tup []), st.hp⟩ with
      | some st => k st
      | none => none := by rw [bnd_some]; exact ih _ k _
    have run : (opK E callF st.tm st.hp o.dst o.op (fun st => opsK E callF all os st k ⟨⟩) ⟨⟩) = match (match evAny E callF st.tm st.hp o.op with
        | some (v, hp) => evOps E callF all os ⟨putAV st.tm o.dst v, hp⟩
        | none => none) with
      | some st => k st
      | none => none := by
      rw [opK_eq]
      cases evAny E callF st.tm st.hp o.op with
      | none => rfl
      | some p => exact ih _ k _
    have e : evOps E callF all (o :: os) st = match guardAV all st.tm o with
      | some true => match evAny E callF st.tm st.hp o.op with
        | some (v, hp) => evOps E callF all os ⟨putAV st.tm o.dst v, hp⟩
        | none => none
      | some false => evOps E callF all os ⟨putAV st.tm o.dst (.tup []), st.hp⟩
      | none => none := by rw [evOps]; rfl
    have hg : guardAV all st.tm o = match gvOf all st.tm o with
      | some .yes => some true
      | some .no => some false
      | some (.as b) => some b
      | none => none := by
      unfold guardAV gvOf
      cases o.guard with
      | none => rfl
      | some p =>
        obtain ⟨j, want⟩ := p
        simp only
        cases (all[j]?).bind (·.dst) with
        | none => rfl
        | some d =>
          simp only
          cases st.tm[d]? with
          | none => rfl
          | some v =>
            cases v with
            | tup vs => cases vs <;> rfl
            | _ => rfl
    rw [e, hg]
    unfold opsK
    cases hG : gvOf all st.tm o with
    | none => rfl
    | some g =>
      cases g with
      | yes => rw [onG_yes]; exact run
      | no => rw [onG_no]; exact skip
      | as b =>
        rw [onG_as]
        cases b with
        | true => rw [sw_true]; exact run
        | false => rw [sw_false]; exact skip

/-- What a loop comes to. -/
def loopK {α : Type} (y : Option (X × St)) (kn : St → Option α) (kx : Nat → St → Option α) (kr : St → Option α) (_ : Hid kn) (_ : Hid kx) (_ : Hid kr) : Option α := match y with
  | some (.normal, st') => kn st'
  | some (.exit id, st') => kx id st'
  | some (.ret, st') => kr st'
  | none => none
theorem loopK_exit {α : Type} (id : Nat) (st : St) (kn : St → Option α) (kx : Nat → St → Option α) (kr : St → Option α) (h1 : Hid kn) (h2 : Hid kx) (h3 : Hid kr) : loopK (some (.exit id, st)) kn kx kr h1 h2 h3 = kx id st := rfl
theorem loopK_ret {α : Type} (st : St) (kn : St → Option α) (kx : Nat → St → Option α) (kr : St → Option α) (h1 : Hid kn) (h2 : Hid kx) (h3 : Hid kr) : loopK (some (.ret, st)) kn kx kr h1 h2 h3 = kr st := rfl
/-- A loop, from its head on. -/
def loopAt (E : Env) (callF : CallF) (it : Iter) (f : FuncId) (cur : Nat) (body : Code) (st : St) : Option (X × St) := match E.ann f cur with
  | some an => it (evCode E callF it f cur body) (normSt an.live (prepOwn an.own st).hp.length) (prepOwn an.own st)
  | none => it (evCode E callF it f cur body) id st
/-- Ways out of a block. -/
def exitK {α : Type} (id : Nat) (kn : St → Option α) (kx : Nat → St → Option α) (id' : Nat) (st : St) : Option α := if id' = id then kn st else kx id' st
theorem exitK_same {α : Type} (id : Nat) (kn : St → Option α) (kx : Nat → St → Option α) (st : St) : exitK id kn kx id st = kn st := by simp [exitK]
theorem exitK_other {α : Type} (id id' : Nat) (kn : St → Option α) (kx : Nat → St → Option α) (st : St) (h : (id' == id) = false) : exitK id kn kx id' st = kx id' st := by
  have : id' ≠ id := by simpa using h
  simp [exitK, this]

/-- Operations that look at own memory keep off the variables that are made in the region. -/
def safeB (E : Env) (tm : List AV) (conf : List Nat) (o : Oper) : Bool := !(opKind E o == 1) || conf.all (safeOp E tm o)
def atO (E : Env) (callF : CallF) (all : List Oper) {α : Type} (o : Option Oper) (conf : List Nat) (st : St) (k : St → Option α) (_ : Hid k) : Option α := match o with
  | some o => onG (gvOf all st.tm o) (fun _ => if safeB E st.tm conf o then opK E callF st.tm st.hp o.dst o.op k ⟨⟩ else none)
      (fun _ => bnd (some (St.mk (putAV st.tm o.dst (.tup [])) st.hp)) k ⟨⟩) ⟨⟩ ⟨⟩
  | none => none
def planK (E : Env) (callF : CallF) (all : List Oper) {α : Type} : List (Nat × List Nat) → St → (k : St → Option α) → Hid k → Option α
  | [], st, k, _ => k st
  | (i, conf) :: r, st, k, _ => atO E callF all all[i]? conf st (fun st => planK E callF all r st k ⟨⟩) ⟨⟩
abbrev Plan := Nat → Option (List (Nat × List Nat))
def planOf (all : List Oper) : List (Nat × List Nat) := (others all).map fun k => (k, confSlots all (ancs all) k)
def regK (E : Env) (callF : CallF) (pl : Option (List (Nat × List Nat))) (all : List Oper) {α : Type} (st : St) (k : St → Option α) (_ : Hid k) : Option α := match pl with
  | none => opsK E callF all all st k ⟨⟩
  | some l => bnd (hoist E all st) (fun st => planK E callF all l st k ⟨⟩) ⟨⟩

theorem atO_eq {all : List Oper} {α : Type} {i : Nat} {anc : List (List Nat)} {st : St} {k : St → Option α} (hk : Hid k) :
    atO E callF all all[i]? (confSlots all anc i) st k hk = match stepD E callF all anc i st with
      | some st => k st
      | none => none := by
  unfold stepD
  cases ho : all[i]? with
  | none => rfl
  | some o =>
    have hg : guardAV all st.tm o = match gvOf all st.tm o with
      | some .yes => some true
      | some .no => some false
      | some (.as b) => some b
      | none => none := by
      unfold guardAV gvOf
      cases o.guard with
      | none => rfl
      | some p =>
        obtain ⟨j, want⟩ := p
        simp only
        cases (all[j]?).bind (·.dst) with
        | none => rfl
        | some d =>
          simp only
          cases st.tm[d]? with
          | none => rfl
          | some v =>
            cases v with
            | tup vs => cases vs <;> rfl
            | _ => rfl
    have run : (if safeB E st.tm (confSlots all anc i) o then opK E callF st.tm st.hp o.dst o.op k ⟨⟩ else none) = match (match (if opKind E o == 1 then (if (confSlots all anc i).all (safeOp E st.tm o) then evAny E callF st.tm st.hp o.op else none) else evAny E callF st.tm st.hp o.op) with
        | some (v, hp) => some (St.mk (putAV st.tm o.dst v) hp)
        | none => none) with
      | some st => k st
      | none => none := by
      unfold safeB
      by_cases h1 : (opKind E o == 1) = true
      · by_cases h2 : (confSlots all anc i).all (safeOp E st.tm o) = true
        · simp only [h1, h2, Bool.not_true, Bool.or_true, if_true]
          rw [opK_eq]
          cases evAny E callF st.tm st.hp o.op <;> rfl
        · have h2 : (confSlots all anc i).all (safeOp E st.tm o) = false := by simpa using h2
          simp only [h1, h2, Bool.not_true, Bool.or_self, if_true, if_false, Bool.false_eq_true]
      · have h1 : (opKind E o == 1) = false := by simpa using h1
        simp only [h1, Bool.not_false, Bool.true_or, if_true, if_false, Bool.false_eq_true]
        rw [opK_eq]
        cases evAny E callF st.tm st.hp o.op <;> rfl
    unfold atO
    simp only
    unfold evD
    rw [hg]
    cases gvOf all st.tm o with
    | none => rfl
    | some g =>
      cases g with
      | yes => rw [onG_yes]; exact run
      | no => rfl
      | as b =>
        rw [onG_as]
        cases b with
        | true => rw [sw_true]; exact run
        | false => rfl
theorem planK_eq {all : List Oper} {anc : List (List Nat)} {α : Type} : ∀ (l : List Nat) (st : St) (k : St → Option α) (hk : Hid k),
    planK E callF all (l.map fun k => (k, confSlots all anc k)) st k hk = match evListD E callF all anc l st with
      | some st => k st
      | none => none
  | [], st, k, _ => rfl
  | i :: l, st, k, hk => by
    simp only [List.map_cons]
    unfold planK evListD
    rw [atO_eq]
    cases stepD E callF all anc i st with
    | none => rfl
    | some st' => exact planK_eq l st' k _

def codeK (E : Env) (callF : CallF) (it : Iter) (f : FuncId) (pl : Plan) {α : Type} : Nat → Code → St → (kn : St → Option α) → (kx : Nat → St → Option α) → (kr : St → Option α) → Hid kn → Hid kx → Hid kr → Option α
  | _, .skip, st, kn, _, _, _, _, _ => kn st
  | _, .region i ops _, st, kn, _, _, _, _, _ => regK E callF (pl i) ops.toList st kn ⟨⟩
  | cur, .seq a b, st, kn, kx, kr, _, _, _ => codeK E callF it f pl cur a st (fun st' => codeK E callF it f pl cur b st' kn kx kr ⟨⟩ ⟨⟩ ⟨⟩) kx kr ⟨⟩ ⟨⟩ ⟨⟩
  | cur, .cond c a b, st, kn, kx, kr, _, _, _ => onB (opnd E st.tm c) (fun x => sw x (fun _ => codeK E callF it f pl cur a st kn kx kr ⟨⟩ ⟨⟩ ⟨⟩) (fun _ => codeK E callF it f pl cur b st kn kx kr ⟨⟩ ⟨⟩ ⟨⟩) ⟨⟩ ⟨⟩) ⟨⟩
  | _, .block id body, st, kn, kx, kr, _, _, _ => codeK E callF it f pl id body st kn (exitK id kn kx) kr ⟨⟩ ⟨⟩ ⟨⟩
  | cur, .loop body, st, kn, kx, kr, _, _, _ => loopK (loopAt E callF it f cur body st) kn kx kr ⟨⟩ ⟨⟩ ⟨⟩
  | _, .exit id, st, _, kx, _, _, _, _ => kx id st
  | _, .label _, st, kn, _, _, _, _, _ => kn st
  | _, .ret, st, _, _, kr, _, _, _ => kr st
  | _, _, _, _, _, _, _, _, _ => none

/-- The regions that draw may run in the order of their text. -/
def drawOk (E : Env) (ops : Array Oper) : Bool := okRegion E ops && ops.toList.all fun o => !isAlloc o
def drawsOk (E : Env) (pl : Plan) : Code → Bool
  | .region i ops draw => match pl i with
    | none => !draw || drawOk E ops
    | some l => draw && okRegion E ops && l == planOf ops.toList
  | .seq a b => drawsOk E pl a && drawsOk E pl b
  | .cond _ a b => drawsOk E pl a && drawsOk E pl b
  | .block _ b => drawsOk E pl b
  | .loop b => drawsOk E pl b
  | _ => true

theorem hoist_none : ∀ (l : List Oper) (st : St), (l.all fun o => !isAlloc o) = true → hoist E l st = some st
  | [], st, _ => rfl
  | o :: l, st, h => by
    simp only [List.all_cons, Bool.and_eq_true, Bool.not_eq_true'] at h
    unfold hoist
    simp only [h.1, Bool.false_eq_true, if_false]
    exact hoist_none l st h.2
theorem confSlots_none {all : List Oper} (h : (all.all fun o => !isAlloc o) = true) (anc : List (List Nat)) (k : Nat) : confSlots all anc k = [] := by
  unfold confSlots
  rw [List.filterMap_eq_nil_iff]
  intro i _
  split
  · rename_i o ho
    have : isAlloc o = false := by
      have := List.all_eq_true.1 h o (List.mem_of_getElem? ho)
      simpa using this
    simp [this]
  · rfl
theorem others_all {all : List Oper} (h : (all.all fun o => !isAlloc o) = true) : others all = List.range all.length := by
  unfold others
  rw [List.filter_eq_self]
  intro k hk
  have hk := List.mem_range.1 hk
  rw [List.getElem?_eq_getElem hk]
  have := List.all_eq_true.1 h all[k] (List.getElem_mem hk)
  exact this
theorem evListD_plain {all : List Oper} (h : (all.all fun o => !isAlloc o) = true) (anc : List (List Nat)) : ∀ (l : List Oper) (i : Nat) (st : St), all.drop i = l →
    evListD E callF all anc (List.range' i l.length) st = evOps E callF all l st
  | [], i, st, _ => rfl
  | o :: l, i, st, hl => by
    have ho : all[i]? = some o := by
      have h1 : (all.drop i)[0]? = some o := by rw [hl]; rfl
      simpa using h1
    have hl' : all.drop (i + 1) = l := by rw [← List.drop_drop, hl]; rfl
    simp only [List.length_cons, List.range'_succ]
    have e : evOps E callF all (o :: l) st = match guardAV all st.tm o with
      | some true => match evAny E callF st.tm st.hp o.op with
        | some (v, hp) => evOps E callF all l ⟨putAV st.tm o.dst v, hp⟩
        | none => none
      | some false => evOps E callF all l ⟨putAV st.tm o.dst (.tup []), st.hp⟩
      | none => none := by rw [evOps]; rfl
    have hD : evD E callF all [] o st.tm st.hp = match guardAV all st.tm o with
      | some true => evAny E callF st.tm st.hp o.op
      | some false => some (.tup [], st.hp)
      | none => none := by
      unfold evD
      cases guardAV all st.tm o with
      | none => rfl
      | some b => cases b <;> simp
    rw [e]
    unfold evListD stepD
    simp only [ho, confSlots_none h, hD]
    cases guardAV all st.tm o with
    | none => rfl
    | some b =>
      cases b with
      | false => exact evListD_plain h anc l (i + 1) _ hl'
      | true =>
        simp only
        cases evAny E callF st.tm st.hp o.op with
        | none => rfl
        | some p => exact evListD_plain h anc l (i + 1) _ hl'
theorem evRegion_draw {ops : Array Oper} (h : drawOk E ops = true) (st : St) : evRegion E callF ops true st = evOps E callF ops.toList ops.toList st := by
  simp only [drawOk, Bool.and_eq_true] at h
  unfold evRegion
  simp only [if_true, h.1, hoist_none _ st h.2, others_all h.2]
  rw [List.range_eq_range']
  exact evListD_plain h.2 _ _ 0 st rfl

theorem codeK_eq {α : Type} {pl : Plan} : ∀ (c : Code) (cur : Nat) (st : St) (kn : St → Option α) (kx : Nat → St → Option α) (kr : St → Option α) (h1 : Hid kn) (h2 : Hid kx) (h3 : Hid kr), drawsOk E pl c = true →
    codeK E callF it f pl cur c st kn kx kr h1 h2 h3 = match evCode E callF it f cur c st with
      | some (.normal, st') => kn st'
      | some (.exit id, st') => kx id st'
      | some (.ret, st') => kr st'
      | none => none := by
  intro c
  induction c with
  | region i ops draw =>
    intro cur st kn kx kr h1 h2 h3 hd
    unfold codeK evCode regK
    unfold drawsOk at hd
    cases hp : pl i with
    | none =>
      rw [hp] at hd
      have he : evRegion E callF ops draw st = evOps E callF ops.toList ops.toList st := by
        cases draw with
        | false => rfl
        | true => exact evRegion_draw (by simpa using hd) st
      simp only
      rw [opsK_eq, he]
      cases evOps E callF ops.toList ops.toList st <;> rfl
    | some l =>
      rw [hp] at hd
      simp only [Bool.and_eq_true, beq_iff_eq] at hd
      obtain ⟨⟨hdr, hok⟩, hl⟩ := hd
      subst hl
      subst hdr
      unfold evRegion planOf
      simp only [if_true, hok]
      cases hoist E ops.toList st with
      | none => rfl
      | some st1 =>
        simp only [bnd_some]
        rw [planK_eq]
        cases evListD E callF ops.toList (ancs ops.toList) (others ops.toList) st1 <;> rfl
  | seq a b iha ihb =>
    intro cur st kn kx kr h1 h2 h3 hd
    simp only [drawsOk, Bool.and_eq_true] at hd
    unfold codeK evCode
    rw [iha cur st _ _ _ _ _ _ hd.1]
    cases evCode E callF it f cur a st with
    | none => rfl
    | some p =>
      obtain ⟨x, st'⟩ := p
      cases x with
      | normal => exact ihb cur st' _ _ _ _ _ _ hd.2
      | exit id => rfl
      | ret => rfl
  | cond c a b iha ihb =>
    intro cur st kn kx kr h1 h2 h3 hd
    simp only [drawsOk, Bool.and_eq_true] at hd
    unfold codeK evCode onB
    split
    · rename_i x hx
      cases x with
      | true => simp only [hx, sw_true]; exact iha cur st _ _ _ _ _ _ hd.1
      | false => simp only [hx, sw_false]; exact ihb cur st _ _ _ _ _ _ hd.2
    · rename_i hx
      split
      · rename_i hh; split at hh <;> simp_all
      · rename_i hh; split at hh <;> simp_all
      · rename_i hh; split at hh <;> simp_all
      · rfl
  | block id body ih =>
    intro cur st kn kx kr h1 h2 h3 hd
    unfold codeK evCode
    rw [ih id st _ _ _ _ _ _ (by simpa [drawsOk] using hd)]
    cases evCode E callF it f id body st with
    | none => rfl
    | some p =>
      obtain ⟨x, st'⟩ := p
      cases x with
      | normal => rfl
      | exit id' =>
        by_cases h : id' = id
        · subst h; simp [exitK]
        · simp [exitK, h]
      | ret => rfl
  | loop body ih =>
    intro cur st kn kx kr h1 h2 h3 hd
    unfold codeK evCode
    unfold loopAt loopK
    cases E.ann f cur <;> rfl
  | _ => intros; rfl

/-- A whole body. -/
def resK (E : Env) (rs : List ResultVar) (st : St) : Option (AV × Heap) := match mapO (resultAV E st) rs with
  | some [v] => some (v, st.hp)
  | some vs => some (.tup vs, st.hp)
  | none => none
def bodyK (E : Env) (callF : CallF) (it : Iter) (f : FuncId) (pl : Plan) (c : Code) (n : Nat) (rs : List ResultVar) (args : List AV) (hp : Heap) : Option (AV × Heap) :=
  codeK E callF it f pl 0 c ⟨args ++ List.replicate (n - args.length) (.tup []), hp⟩ (resK E rs) (fun _ _ => none) (resK E rs) ⟨⟩ ⟨⟩ ⟨⟩
theorem callW_K {pl : Plan} {fd : Func} {c : Code} {n : Nat} {rs : List ResultVar} (hf : E.fn f = some fd) (hb : fd.body = some c) (hn : fd.ntmps = n) (hr : fd.results.toList = rs) (hd : drawsOk E pl c = true) (args : List AV) (hp : Heap) :
    callW E f args hp = bodyK E (callW E) iterW f pl c n rs args hp := by
  rw [callW_eq]
  unfold bodyF bodyK
  rw [codeK_eq c 0 _ _ _ _ _ _ _ hd]
  simp only [hf, hb]
  have key : ∀ st : St, (resultsAV E fd st).map (·, st.hp) = resK E rs st := by
    intro st
    unfold resultsAV resK
    rw [hr]
    cases mapO (resultAV E st) rs with
    | none => rfl
    | some l => match l with
      | [] => rfl
      | [_] => rfl
      | _ :: _ :: _ => rfl
  subst hn
  cases evCode E (callW E) iterW f 0 c ⟨args ++ List.replicate (fd.ntmps - args.length) (.tup []), hp⟩ with
  | none => rfl
  | some p => obtain ⟨x, st'⟩ := p; cases x <;> first | rfl | exact key st'
/-- A whole body, of a function of values. -/
def resP (E : Env) (rs : List ResultVar) (st : St) : Option AV := match mapO (resultAV E st) rs with
  | some [v] => (resolve st.hp depth v).map AV.norm
  | some vs => (resolve st.hp depth (.tup vs)).map AV.norm
  | none => none
theorem pureF_K {pl : Plan} {fd : Func} {c : Code} {n : Nat} {rs : List ResultVar} (hf : E.fn f = some fd) (hb : fd.body = some c) (hn : fd.ntmps = n) (hr : fd.results.toList = rs) (hd : drawsOk E pl c = true) (args : List AV) :
    pureF (callW E) f args = codeK E (callW E) iterW f pl 0 c ⟨AV.norm.normL args ++ List.replicate (n - (AV.norm.normL args).length) (.tup []), []⟩ (resP E rs) (fun _ _ => none) (resP E rs) ⟨⟩ ⟨⟩ ⟨⟩ := by
  unfold pureF
  rw [callW_K hf hb hn hr hd]
  unfold bodyK
  rw [codeK_eq c 0 _ _ _ _ _ _ _ hd, codeK_eq c 0 _ _ _ _ _ _ _ hd]
  have key : ∀ st : St, (match resK E rs st with
      | some (r, hp) => (resolve hp depth r).map AV.norm
      | none => none) = resP E rs st := by
    intro st
    unfold resK resP
    cases mapO (resultAV E st) rs with
    | none => rfl
    | some l => match l with
      | [] => rfl
      | [_] => rfl
      | _ :: _ :: _ => rfl
  cases evCode E (callW E) iterW f 0 c ⟨AV.norm.normL args ++ List.replicate (n - (AV.norm.normL args).length) (.tup []), []⟩ with
  | none => rfl
  | some p => obtain ⟨x, st'⟩ := p; cases x <;> first | rfl | exact key st'
/-- A loop's round. -/
theorem evCode_K {pl : Plan} {c : Code} (hd : drawsOk E pl c = true) (cur : Nat) (st : St) :
    evCode E callF it f cur c st = codeK E callF it f pl cur c st (fun st => some (.normal, st)) (fun id st => some (.exit id, st)) (fun st => some (.ret, st)) ⟨⟩ ⟨⟩ ⟨⟩ := by
  rw [codeK_eq c cur st _ _ _ _ _ _ hd]
  cases evCode E callF it f cur c st with
  | none => rfl
  | some p => obtain ⟨x, st'⟩ := p; cases x <;> rfl
end Go.EV
