/-
  An operation that is no call: the machine does what the evaluator says.
-/
import Derived.Test.YtkdjkbgcebodgaaDoorEvR
import Derived.Lib.AtoiErrMem
import Derived.Lib.ConvBytes
set_option linter.unusedSimpArgs false
set_option linter.unusedVariables false
namespace Go.EV
open Go.RowKit
variable {E : Env} {P : Program}

/-- What is fixed while one call of a law runs: the world at its start. -/
structure Sit (w0 : World) (base : Nat) (Z : Zone) (w : World) : Prop where
  below : Below w0.heap.size w0 w
  old : ∀ c j, c < w0.heap.size → Z c j
  lo : w0.heap.size ≤ base
theorem Sit.ext {w0 : World} {base : Nat} {Z Z' : Zone} {G G' : Ghost} {w w' : World} (h : Sit w0 base Z w) (e : Ext base Z G w Z' G' w') : Sit w0 base Z' w' :=
  ⟨h.below.trans (e.below.mono h.lo), fun c j hc => e.zsub c j (h.old c j hc), h.lo⟩

def LRel (Z : Zone) (G : Ghost) (w : World) (as : List AV) (vs : Array Value) : Prop := as.length = vs.size ∧ ∀ i, i < as.length → Rel Z G w (as.getD i .undef) (vs.getD i Go.undef)
def LPRel (Z : Zone) (w : World) (as : List AV) (vs : Array Value) : Prop := as.length = vs.size ∧ ∀ i, i < as.length → PRel Z w (as.getD i .undef) (vs.getD i Go.undef)

/-- A function of values without own memory: called in any world that has kept the start's memory, it hands back r, and turns nothing that is there. -/
def PureOk (P : Program) (w0 : World) (f : FuncId) (args : List AV) (r : AV) : Prop :=
  ∀ (Z : Zone) (w : World) (vs : Array Value), Below w0.heap.size w0 w → (∀ c j, c < w0.heap.size → Z c j) → (∀ c j, Z c j → c < w.heap.size) → LPRel Z w args vs →
    Calls P f vs w fun e w' => ∃ v Z', e = .returned v ∧ Below w.heap.size w w' ∧ (∀ c j, Z c j → Z' c j) ∧ (∀ c j, Z' c j → Z c j ∨ w.heap.size ≤ c) ∧ (∀ c j, Z' c j → c < w'.heap.size) ∧ PRel Z' w' r v

structure EnvOk (E : Env) (P : Program) (w0 : World) : Prop where
  ti : ∀ t ti, E.ti t = some ti → TiOk P t ti
  fn : ∀ f d, E.fn f = some d → P.funcs[f]? = some d ∧ (d.name == "runtime.NumGoroutine") = false
  gl : ∀ g v, E.gl g = some v → ∃ (sz : Nat) (V : Nat → Value), 0 < sz ∧ v.fits sz = true ∧ ∀ o, o < sz → w0.cell? ⟨g, o, none⟩ = some (V o) ∧ PRel (fun c _ => c < w0.heap.size) w0 (v.cells.getD o .undef) (V o)
  lib : ∀ f args r, E.lib f args = some r → PureOk P w0 f args r ∧ ∃ d, P.funcs[f]? = some d ∧ d.body.isNone = false ∧ (d.name == "runtime.NumGoroutine") = false
  mix : P.follows .mixedOrders = true

theorem cell_lt {w : World} {c j : Nat} {v : Value} (h : w.cell? ⟨c, j, none⟩ = some v) : c < w.heap.size := World.block_lt_of_cell? (a := ⟨c, j, none⟩) (w := w) h

/-- Operands. -/
theorem opnd_ok {w0 : World} (hE : EnvOk E P w0) {base : Nat} {Z : Zone} {G : Ghost} {w : World} (S : Sit w0 base Z w) {D : Nat → Prop} {tm : List AV} {a : Act} (T : TRel Z G w D tm a.tmps) (x : Operand) (hx : ∀ t, x = .tmp t → ¬ D t) :
    Rel Z G w (opnd E tm x) (a.eval x) := by
  cases x with
  | tmp t => exact T.get t (hx t rfl)
  | const v => exact .pure (constAV_rel v)
  | func f => exact .pure (.fn f [] #[] rfl (fun i hi => by simp at hi))
  | global g =>
    simp only [opnd, Act.eval]
    cases hg : E.gl g with
    | none => exact .pure (.undef _)
    | some v =>
      obtain ⟨sz, V, hpos, hf, hV⟩ := hE.gl g v hg
      have hcell : ∀ o, o < sz → w.cell? ⟨g, o, none⟩ = some (V o) := fun o ho => by
        have h1 := (hV o ho).1
        rw [S.below.cell (p := ⟨g, o, none⟩) (cell_lt h1)]; exact h1
      have := PRel.ip (Z := Z) (w := w) [v] 0 0 sz g 0 (fun _ o => V o) (fun i hi => by
          have : i = 0 := by simp at hi; omega
          subst this; simpa using hf)
        (fun i o hi ho => by
          have : i = 0 := by simp at hi; omega
          subst this
          simp only [Nat.zero_mul, Nat.zero_add]
          exact ⟨hcell o ho, S.old _ _ (cell_lt (hV o ho).1)⟩)
        (fun i o hi ho => by
          have : i = 0 := by simp at hi; omega
          subst this
          simp only [List.getD_cons_zero]
          exact (hV o ho).2.mono (fun c j h => S.old c j h) (fun c j h => S.below.cell (p := ⟨c, j, none⟩) h))
      simpa using Rel.pure this

theorem run_v {s : Sem Value} {w w' : World} {v : Value} (h : s.run P w = .ok v w') : (do pure (Next.value (← s)) : Sem Next).run P w = .ok (.value v) w' := by
  simp only [Sem.run_bind, h, Result.andThen_ok, Sem.run_pure]

/-- What an operation that is no call comes to. -/
def OpGives (P : Program) (s : Sem Next) (w : World) (Q : Value → World → Prop) : Prop :=
  ∃ v w', (s.run P w = .ok (.value v) w' ∨ (s.run P w = .ok .skip w' ∧ v = Go.undef)) ∧ Q v w'
theorem OpGives.val {s : Sem Value} {w : World} {Q : Value → World → Prop} (h : ∃ v w', s.run P w = .ok v w' ∧ Q v w') : OpGives P (do pure (Next.value (← s))) w Q :=
  let ⟨v, w', h1, h2⟩ := h; ⟨v, w', .inl (run_v h1), h2⟩

theorem opnds_ok {w0 : World} (hE : EnvOk E P w0) {base : Nat} {Z : Zone} {G : Ghost} {w : World} (S : Sit w0 base Z w) {D : Nat → Prop} {tm : List AV} {a : Act} (T : TRel Z G w D tm a.tmps) (xs : Array Operand) (hx : ∀ t, .tmp t ∈ xs → ¬ D t) :
    LRel Z G w (xs.toList.map (opnd E tm)) (xs.map a.eval) := by
  refine ⟨by simp, fun i hi => ?_⟩
  have hi' : i < xs.size := by simpa using hi
  have h1 : (xs.toList.map (opnd E tm)).getD i .undef = opnd E tm xs[i] := by simp [List.getD_eq_getElem?_getD, hi']
  have h2 : (xs.map a.eval).getD i Go.undef = a.eval xs[i] := by simp [Array.getD, hi']
  rw [h1, h2]
  exact opnd_ok hE S T _ fun t ht => hx t (by rw [← ht]; exact Array.getElem_mem hi')

theorem orel_map {w0 : World} (hE : EnvOk E P w0) {base : Nat} {Z : Zone} {G : Ghost} {w : World} (S : Sit w0 base Z w) {D : Nat → Prop} {tm : List AV} {a : Act} (T : TRel Z G w D tm a.tmps) (x : Option Operand) (hx : ∀ t, x = some (.tmp t) → ¬ D t) :
    ORel Z G w (x.map (opnd E tm)) (x.map a.eval) := by
  cases x with
  | none => trivial
  | some x => exact opnd_ok hE S T x fun t ht => hx t (by rw [ht])

theorem parts_ok {w0 : World} (hE : EnvOk E P w0) {base : Nat} {Z : Zone} {G : Ghost} {w : World} (S : Sit w0 base Z w) {D : Nat → Prop} {tm : List AV} {a : Act} (T : TRel Z G w D tm a.tmps) (ps : Array (Nat × Operand)) (hx : ∀ t, .tmp t ∈ ps.toList.map (·.2) → ¬ D t) (qs : Array (Nat × Value))
    (hq : qs = ps.map fun p => (p.1, a.eval p.2)) :
    (ps.toList.map fun p => (p.1, opnd E tm p.2)).length = qs.toList.length ∧
    ∀ i (h1 : i < (ps.toList.map fun p => (p.1, opnd E tm p.2)).length) (h2 : i < qs.toList.length),
      (ps.toList.map fun p => (p.1, opnd E tm p.2))[i].1 = qs.toList[i].1 ∧ Rel Z G w (ps.toList.map fun p => (p.1, opnd E tm p.2))[i].2 qs.toList[i].2 := by
  subst hq
  refine ⟨by simp, fun i h1 h2 => ?_⟩
  have hi : i < ps.size := by simpa using h1
  simp only [List.getElem_map, Array.toList_map, Array.getElem_toList]
  refine ⟨trivial, opnd_ok hE S T _ fun t ht => hx t ?_⟩
  rw [← ht]
  exact List.mem_map.2 ⟨ps[i], by simp, rfl⟩

theorem arr1 {α : Type} {xs : Array α} {x : α} (h : xs.toList = [x]) : xs = #[x] := Array.ext' h
theorem arr2 {α : Type} {xs : Array α} {x y : α} (h : xs.toList = [x, y]) : xs = #[x, y] := Array.ext' h
theorem LRel.one {Z : Zone} {G : Ghost} {w : World} {x : AV} {vs : Array Value} (h : LRel Z G w [x] vs) : ∃ v, vs = #[v] ∧ Rel Z G w x v := by
  obtain ⟨hl, hr⟩ := h
  obtain ⟨v, hv⟩ : ∃ v, vs.toList = [v] := List.length_eq_one_iff.1 (by simpa using hl.symm)
  have := arr1 hv
  subst this
  exact ⟨v, rfl, by simpa using hr 0 (by simp)⟩
theorem LRel.two {Z : Zone} {G : Ghost} {w : World} {x y : AV} {vs : Array Value} (h : LRel Z G w [x, y] vs) : ∃ u v, vs = #[u, v] ∧ Rel Z G w x u ∧ Rel Z G w y v := by
  obtain ⟨hl, hr⟩ := h
  obtain ⟨u, v, hv⟩ : ∃ u v, vs.toList = [u, v] := by
    have hlen : vs.toList.length = 2 := by simpa using hl.symm
    match hh : vs.toList, hlen with
    | [u, v], _ => exact ⟨u, v, rfl⟩
  have := arr2 hv
  subst this
  exact ⟨u, v, rfl, by simpa using hr 0 (by simp), by simpa using hr 1 (by simp)⟩

theorem builtin_ok (hT : ∀ t ti, E.ti t = some ti → TiOk P t ti) {base : Nat} {Z : Zone} {G : Ghost} {hp hp' : Heap} {w : World} (H : HRel base Z G hp w) {b : Builtin} {ts : Array TypeId} {ty : TypeId} {consts : Array Bool} {as : List AV} {vs : Array Value} {r : AV}
    (hl : LRel Z G w as vs) (h : builtinAV E hp b ts.toList as = some (r, hp')) : OpGives P (builtin b ts ty consts vs) w (fun v w' => OpPost base Z G hp' w r v w') := by
  have ret : ∀ {x : Option AV} {s : Sem Value}, x.map (·, hp) = some (r, hp') → (∀ y, x = some y → ∃ v, s.run P w = .ok v w ∧ Rel Z G w y v) → OpGives P (do pure (Next.value (← s))) w (fun v w' => OpPost base Z G hp' w r v w') := by
    intro x s hx hs
    cases x with
    | none => cases hx
    | some y =>
      injection hx with hx; injection hx with h1 h2; subst h1; subst h2
      obtain ⟨v, h1, h2⟩ := hs y rfl
      exact OpGives.val ⟨v, w, h1, OpPost.same H h2⟩
  unfold builtinAV at h
  split at h
  · rename_i t x hts
    have := arr1 hts; subst this
    obtain ⟨v, rfl, hx⟩ := hl.one
    exact ret h fun y hy => lenAV_ok hT hx hy
  · rename_i t u x y hts
    have := arr2 hts; subst this
    obtain ⟨v1, v2, rfl, hx, hy⟩ := hl.two
    exact OpGives.val (append_ok H hT hx hy h)
  · rename_i x y
    obtain ⟨v1, v2, rfl, hx, hy⟩ := hl.two
    exact ret h fun z hz => minAV_ok hx hy hz
  · rename_i x y
    obtain ⟨v1, v2, rfl, hx, hy⟩ := hl.two
    exact ret h fun z hz => maxAV_ok hx hy hz
  · cases h

theorem HRel.afterPure {base : Nat} {Z Z' : Zone} {G : Ghost} {hp : Heap} {w w' : World} (H : HRel base Z G hp w) (hb : Below w.heap.size w w') (h1 : ∀ c j, Z c j → Z' c j) (h2 : ∀ c j, Z' c j → Z c j ∨ w.heap.size ≤ c) (h3 : ∀ c j, Z' c j → c < w'.heap.size) :
    HRel base Z' G hp w' ∧ Ext base Z G w Z' G w' := by
  have hc : ∀ c j, Z c j → w'.cell? ⟨c, j, none⟩ = w.cell? ⟨c, j, none⟩ := fun c j h => hb.cell (p := ⟨c, j, none⟩) (H.zone c j h)
  have H1 := H.carry hb.size hc (fun b g c cap hg => hb.block c (H.old hg))
  have EX : Ext base Z G w Z' G w' := ⟨h1, .refl G, hb.mono H.lo, hc, fun c j h => (h2 c j h).imp id (fun h => Nat.le_trans H.lo h)⟩
  refine ⟨⟨H1.lo, h3, H1.dom, fun b es sz wg com he => ?_, H1.sit, H1.excl, H1.pend, H1.wgle⟩, EX⟩
  obtain ⟨hf, hr⟩ := H1.row b es sz wg com he
  refine ⟨hf, fun g oc cap hg => ?_⟩
  obtain ⟨k1, k2, k3, k4, k5⟩ := hr g oc cap hg
  refine ⟨k1, k2, k3, k4, fun c hoc => ?_⟩
  obtain ⟨k6, k7, cs, t, k8, k9, k10⟩ := k5 c hoc
  subst hoc
  refine ⟨k6, fun j hz => ?_, cs, t, k8, k9, fun hw i o hi ho => (k10 hw i o hi ho).mono h1 (.refl G) (fun _ _ _ => rfl)⟩
  rcases h2 c j hz with h | h
  · exact k7 j h
  · exact absurd (H.old hg) (by omega)

/-- Conversions. -/
theorem convAV_post (hE : ∀ t ti, E.ti t = some ti → TiOk P t ti) {base : Nat} {Z : Zone} {G : Ghost} {hp : Heap} {w : World} (H : HRel base Z G hp w) {s d : TypeId} {x r : AV} {a : Value} (hx : Rel Z G w x a) (h : convAV E s d x = some r) :
    ∃ v w', (convert s d a).run P w = .ok v w' ∧ OpPost base Z G hp w r v w' := by
  unfold convAV at h
  split at h
  rotate_left
  · obtain ⟨v, h1, h2⟩ := convPlain_ok hE hx h
    exact ⟨v, w, h1, OpPost.same H h2⟩
  rename_i bs hb
  injection h with h; subst h
  unfold convBytes at hb
  split at hb
  rotate_left
  · cases hb
  rename_i e _ _ _ _ bs' hs hd
  split at hb
  rotate_left
  · cases hb
  rename_i he
  injection hb with hb; subst hb
  cases hx.str_inv
  have hrun := Lib.run_convert_string_bytes (P := P) w s d e ⟨bs'.toArray⟩ (hE _ _ hs).desc (hE _ _ hd).desc (hE _ _ he).desc
  have hbel := Lib.bytesWorld_below w e ⟨bs'.toArray⟩
  have hsz := Lib.bytesWorld_size w e ⟨bs'.toArray⟩
  refine ⟨_, _, hrun, fun c j => Z c j ∨ c = w.heap.size, G, ?_⟩
  obtain ⟨H', EX⟩ := H.afterPure (Z' := fun c j => Z c j ∨ c = w.heap.size) hbel (fun c j h => .inl h) (fun c j h => h.imp id fun h => by omega)
    (fun c j h => by
      rcases h with h | h
      · have := H.zone c j h; omega
      · omega)
  refine ⟨EX, H', .pure ?_⟩
  have hcap : bs'.length ≤ grownCap w bs'.length 0 e := grownCap_ge w bs'.length 0 e
  have hg : ∀ i, i < bs'.length → (bs'.map byteAV).getD i .undef = byteAV (bs'.getD i 0) := fun i hi => by simp [List.getD_eq_getElem?_getD, hi]
  have hl : (bs'.map byteAV).length = bs'.length := by simp
  have key := PRel.sl (Z := fun c j => Z c j ∨ c = w.heap.size) (w := Lib.bytesWorld w e ⟨bs'.toArray⟩) (bs'.map byteAV) 1 w.heap.size 0 (grownCap w bs'.length 0 e) (fun i _ => .int .u8 (bs'.getD i 0).toNat) (by rw [hl]; exact hcap)
    (fun i hi => by rw [hg i (by rwa [hl] at hi)]; rfl)
    (fun i o hi ho => by
      have ho : o = 0 := by omega
      subst ho
      have := Lib.bytesWorld_cell w e ⟨bs'.toArray⟩ i (show i < bs'.length from by rwa [hl] at hi)
      exact ⟨by simpa using this, .inr rfl⟩)
    (fun i o hi ho => by
      have ho : o = 0 := by omega
      subst ho
      rw [hg i (by rwa [hl] at hi)]
      exact .int _ _)
  rw [hl] at key
  exact key

theorem evOp_ok {w0 : World} (hE : EnvOk E P w0) {base : Nat} {Z : Zone} {G : Ghost} {hp hp' : Heap} {w : World} (S : Sit w0 base Z w) (H : HRel base Z G hp w) {D : Nat → Prop} {tm : List AV} {a : Act} (T : TRel Z G w D tm a.tmps) {o : Oper} {r : AV}
    (hD : ∀ t, .tmp t ∈ o.op.operands → ¬ D t) (h : evOp E tm hp o.op = some (r, hp')) : OpGives P (execOp a.eval o) w (fun v w' => OpPost base Z G hp' w r v w') := by
  have hT := hE.ti
  obtain ⟨dst, op, ty, pos, after, guard⟩ := o
  simp only at h hD
  have O : ∀ x, (∀ t, x = .tmp t → .tmp t ∈ op.operands) → Rel Z G w (opnd E tm x) (a.eval x) := fun x hx => opnd_ok hE S T x fun t ht => hD t (hx t ht)
  have ret : ∀ {x : Option AV} {s : Sem Value}, x.map (·, hp) = some (r, hp') → (∀ y, x = some y → ∃ v, s.run P w = .ok v w ∧ Rel Z G w y v) → OpGives P (do pure (Next.value (← s))) w (fun v w' => OpPost base Z G hp' w r v w') := by
    intro x s hx hs
    cases x with
    | none => cases hx
    | some y =>
      injection hx with hx; injection hx with h1 h2; subst h1; subst h2
      obtain ⟨v, h1, h2⟩ := hs y rfl
      exact OpGives.val ⟨v, w, h1, OpPost.same H h2⟩
  unfold evOp at h
  split at h
  · -- move
    rename_i x
    injection h with h; injection h with h1 h2; subst h1; subst h2
    exact ⟨_, w, .inl rfl, OpPost.same H (O x (fun t ht => by simp [Op.operands, ht]))⟩
  · rename_i x
    injection h with h; injection h with h1 h2; subst h1; subst h2
    exact ⟨_, w, .inl rfl, OpPost.same H (O x (fun t ht => by simp [Op.operands, ht]))⟩
  · -- pick
    rename_i c x y
    have hc := O c (fun t ht => by simp [Op.operands, ht])
    split at h
    · rename_i hb
      rw [hb] at hc
      injection h with h; injection h with h1 h2; subst h1; subst h2
      exact ⟨a.eval x, w, .inl (by simp [execOp, hc.bool_inv, asBool]), OpPost.same H (O x (fun t ht => by simp [Op.operands, ht]))⟩
    · rename_i hb
      rw [hb] at hc
      injection h with h; injection h with h1 h2; subst h1; subst h2
      exact ⟨a.eval y, w, .inl (by simp [execOp, hc.bool_inv, asBool]), OpPost.same H (O y (fun t ht => by simp [Op.operands, ht]))⟩
    · cases h
  · -- alloc
    rename_i t
    split at h
    · rename_i ti ht
      split at h
      · rename_i hc
        injection h with h; injection h with h1 h2; subst h1; subst h2
        exact OpGives.val (alloc_ok H (hT _ _ ht) hc.1 hc.2)
      · cases h
    · cases h
  · -- box
    rename_i t x
    split at h
    · rename_i ti ht
      split at h
      · rename_i hc
        injection h with h; injection h with h1 h2; subst h1; subst h2
        exact OpGives.val (box_ok H (O x (fun t ht => by simp [Op.operands, ht])) hc.1 hc.2)
      · cases h
    · cases h
  · -- build
    rename_i t ps
    obtain ⟨h1, h2⟩ := parts_ok hE S T ps (fun t ht => hD t (by simpa [Op.operands] using ht)) (ps.map fun (i, x) => (i, a.eval x)) rfl
    exact ret h fun y hy => build_ok hT h1 h2 hy
  · -- buildSlice
    rename_i t n ps
    obtain ⟨h1, h2⟩ := parts_ok hE S T ps (fun t ht => hD t (by simpa [Op.operands] using ht)) (ps.map fun (i, x) => (i, a.eval x)) rfl
    exact OpGives.val (buildSlice_ok H hT h1 h2 h)
  · rename_i t x
    exact ret h fun y hy => load_ok H hT (O x (fun t ht => by simp [Op.operands, ht])) hy
  · -- store
    rename_i t x y
    cases hs : storeAV E hp t (opnd E tm x) (opnd E tm y) with
    | none => rw [hs] at h; cases h
    | some hp1 =>
      rw [hs] at h; injection h with h; injection h with h1 h2; subst h1; subst h2
      obtain ⟨w', h1, h2, h3⟩ := store_ok H hT (O x (fun t ht => by simp [Op.operands, ht])) (O y (fun t ht => by simp [Op.operands, ht])) hs
      refine ⟨Go.undef, w', .inr ⟨?_, rfl⟩, Z, G, h3, h2, .pure (.tup [] #[] rfl (fun i hi => by simp at hi))⟩
      simp only [execOp, Sem.run_bind, h1, Result.andThen_ok, Sem.run_pure]
  · -- nilCheck
    rename_i x
    have hx := O x (fun t ht => by simp [Op.operands, ht])
    split at h
    · rename_i es i o he
      rw [he] at hx
      injection h with h; injection h with h1 h2; subst h1; subst h2
      obtain ⟨p, hp⟩ := hx.ip_inv
      exact ⟨a.eval x, w, .inl (by simp [execOp, hp]), OpPost.same H hx⟩
    · rename_i b g i o he
      rw [he] at hx
      injection h with h; injection h with h1 h2; subst h1; subst h2
      obtain ⟨p, hp⟩ := hx.mp_inv
      exact ⟨a.eval x, w, .inl (by simp [execOp, hp]), OpPost.same H hx⟩
    · rename_i f caps he
      rw [he] at hx
      injection h with h; injection h with h1 h2; subst h1; subst h2
      obtain ⟨vs, hp, _⟩ := hx.fn_inv
      exact ⟨a.eval x, w, .inl (by simp [execOp, hp]), OpPost.same H hx⟩
    · cases h
  · rename_i op t x y yt
    exact ret h fun z hz => binAV_ok hT (O x (fun t ht => by simp [Op.operands, ht])) (O y (fun t ht => by simp [Op.operands, ht])) hz
  · rename_i op t x
    exact ret h fun z hz => unAV_ok (O x (fun t ht => by simp [Op.operands, ht])) hz
  · rename_i s d x
    cases hz : convAV E s d (opnd E tm x) with
    | none => rw [hz] at h; cases h
    | some z =>
      rw [hz] at h
      injection h with h; injection h with h1 h2; subst h1; subst h2
      exact OpGives.val (convAV_post hT H (O x (fun t ht => by simp [Op.operands, ht])) hz)
  · -- makeInterface
    rename_i t x
    split at h
    · rename_i ti ht
      split at h
      · cases h
      · rename_i d hnd
        injection h with h; injection h with h1 h2; subst h1; subst h2
        refine OpGives.val ⟨.iface t (a.eval x), w, ?_, OpPost.same H (.iface _ _ _ (O x (fun t ht => by simp [Op.operands, ht])))⟩
        simp only [Instr.makeInterface, Sem.run_bind, run_underlying (hT _ _ ht).desc, Result.andThen_ok]
        rfl
    · cases h
  · -- makeFunc
    rename_i f first caps
    split at h
    · rename_i hs
      injection h with h; injection h with h1 h2; subst h1; subst h2
      have : first = #[] := Array.eq_empty_of_size_eq_zero hs
      subst this
      have hl := opnds_ok hE S T caps (fun t ht => hD t (by simpa [Op.operands] using ht))
      refine OpGives.val ⟨.func (.func f) #[] (caps.map a.eval), w, by simp [Instr.makeFunc], OpPost.same H (.fn f _ _ hl.1 hl.2)⟩
    · cases h
  · rename_i t l c
    exact OpGives.val (makeSlice_ok H hT (O l (fun t ht => by simp [Op.operands, ht])) (O c (fun t ht => by simp [Op.operands, ht])) h)
  · rename_i t x lo hi mx
    exact ret h fun z hz => sliceAV_ok H hT (O x (fun t ht => by simp [Op.operands, ht]))
      (orel_map hE S T lo fun t ht => hD t (by simp [Op.operands, ht])) (orel_map hE S T hi fun t ht => hD t (by simp [Op.operands, ht])) (orel_map hE S T mx fun t ht => hD t (by simp [Op.operands, ht])) hz
  · rename_i t x f
    exact ret h fun z hz => fieldAddr_ok hT (O x (fun t ht => by simp [Op.operands, ht])) hz
  · rename_i t x f
    exact ret h fun z hz => field_ok hT (O x (fun t ht => by simp [Op.operands, ht])) hz
  · rename_i t x i
    exact ret h fun z hz => indexAddr_ok H hT (O x (fun t ht => by simp [Op.operands, ht])) (O i (fun t ht => by simp [Op.operands, ht])) hz
  · rename_i t x i
    exact ret h fun z hz => index_ok hT (O x (fun t ht => by simp [Op.operands, ht])) (O i (fun t ht => by simp [Op.operands, ht])) hz
  · -- range
    rename_i t x
    split at h
    · rename_i ti ht
      split at h
      · rename_i s hd hs
        injection h with h; injection h with h1 h2; subst h1; subst h2
        have hx := O x (fun t ht => by simp [Op.operands, ht])
        rw [hs] at hx
        have hu := (hT _ _ ht).desc
        rw [hd] at hu
        obtain ⟨v, w', h1, h2⟩ := range_ok H (s := s) hu
        exact OpGives.val ⟨v, w', by rw [hx.str_inv]; exact h1, h2⟩
      · cases h
    · cases h
  · -- next
    rename_i x
    exact OpGives.val (next_ok H (O x (fun t ht => by simp [Op.operands, ht])) ty h)
  · -- extract
    rename_i x i
    have hx := O x (fun t ht => by simp [Op.operands, ht])
    split at h
    · rename_i vs he
      rw [he] at hx
      obtain ⟨us, hu, hl, hr⟩ := hx.tup_inv
      refine ret h fun z hz => ?_
      obtain ⟨hz1, hz2⟩ := getD_of_get hz
      refine ⟨us.getD i Go.undef, ?_, by have := hr i hz2; rwa [hz1] at this⟩
      simp only [Instr.extract, hu, Array.getD_of_lt us i Go.undef (show i < us.size by omega), Sem.run_pure]
    · cases h
  · -- builtin
    rename_i b args ts
    have hl := opnds_ok hE S T args (fun t ht => hD t (by simpa [Op.operands, Call.operands] using ht))
    have := builtin_ok (ty := ty) (consts := args.map fun | .const _ => true | _ => false) hT H hl h
    obtain ⟨v, w', h1, h2⟩ := this
    refine ⟨v, w', ?_, h2⟩
    have he : (execOp a.eval ⟨dst, .call ⟨.builtin b, args, ts⟩, ty, pos, after, guard⟩).run P w = (builtin b ts ty (args.map fun | .const _ => true | _ => false) (args.map a.eval)).run P w := by
      simp only [execOp, Go.resolve, Sem.run_bind, Sem.run_pure, Result.andThen_ok, invoke]
      rfl
    rw [he]; exact h1
  · cases h
end Go.EV
