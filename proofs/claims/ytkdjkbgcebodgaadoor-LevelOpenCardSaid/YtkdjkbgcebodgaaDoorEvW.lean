/-
  Calls, and the operations of a region in the text's order.
-/
import Derived.Test.YtkdjkbgcebodgaaDoorEvV
set_option linter.unusedSimpArgs false
set_option linter.unusedVariables false
namespace Go.EV
open Go.RowKit
variable {E : Env} {P : Program}

def Enters (P : Program) (f : FuncId) : Prop := ∃ d, P.funcs[f]? = some d ∧ d.body.isNone = false ∧ (d.name == "runtime.NumGoroutine") = false
theorem Enters.run {f : FuncId} (h : Enters P f) (args : Array Value) (w : World) : (callFunc f args).run P w = .ok (.enter f args) w := by
  obtain ⟨d, h1, h2, h3⟩ := h
  unfold callFunc
  simp only [Sem.run_bind, run_program, Result.andThen_ok, h1, h2, h3, Bool.false_eq_true, if_false, Sem.run_pure]

/-- What the evaluator's calls are worth. -/
def CallOk (P : Program) (w0 : World) (callF : CallF) : Prop :=
  ∀ f args hp r hp', callF f args hp = some (r, hp') → Enters P f ∧ ∀ (base : Nat) (Z : Zone) (G : Ghost) (w : World) (vs : Array Value), Sit w0 base Z w → HRel base Z G hp w → LRel Z G w args vs →
    Calls P f vs w fun e w' => ∃ v, e = .returned v ∧ OpPost base Z G hp' w r v w'

theorem HRel.nothing {base : Nat} {Z : Zone} {w : World} (h1 : base ≤ w.heap.size) (h2 : ∀ c j, Z c j → c < w.heap.size) : HRel base Z .empty [] w :=
  ⟨h1, h2, fun b g r h => (nomatch h), fun b es sz wg com h => by simp at h, fun b s pos h => by simp at h, fun b b' g g' c cap cap' h => (nomatch h), fun b z sz h => (nomatch h), fun b es sz wg com h => by simp at h⟩

theorem pureF_ok {w0 : World} {callF : CallF} (hC : CallOk P w0 callF) {f : FuncId} {args : List AV} {r : AV} (h : pureF callF f args = some r) : Enters P f ∧ PureOk P w0 f args r := by
  unfold pureF at h
  split at h
  rotate_left
  · cases h
  rename_i r1 hp1 hc
  obtain ⟨hen, hcall⟩ := hC _ _ _ _ _ hc
  obtain ⟨r2, hr2, h⟩ : ∃ r2, resolve hp1 depth r1 = some r2 ∧ r2.norm = r := by simpa [Option.map_eq_some_iff] using h
  subst h
  refine ⟨hen, fun Z w vs hb ho hz hl => ?_⟩
  refine (hcall w.heap.size Z .empty w vs ⟨hb, ho, hb.size⟩ (HRel.nothing (Nat.le_refl _) hz) ⟨by rw [normL_length]; exact hl.1, fun i hi => .pure (by rw [normL_getD]; exact (hl.2 i (by rwa [normL_length] at hi)).norm)⟩).mono ?_
  rintro e w' ⟨v, rfl, Z', G', EX, H', hr⟩
  refine ⟨v, fun c j => Z' c j ∨ (w.heap.size ≤ c ∧ c < w'.heap.size), rfl, EX.below, fun c j h => .inl (EX.zsub c j h), fun c j h => ?_, fun c j h => ?_, ?_⟩
  · rcases h with h | h
    · exact EX.znew c j h
    · exact .inr h.1
  · rcases h with h | h
    · exact H'.zone c j h
    · exact h.2
  · refine PRel.norm ?_
    refine resolve_ok H' (fun c j h => .inl h) (fun b g c cap hg j => .inr ⟨?_, H'.old hg⟩) depth r1 r2 v hr2 hr
    have hb := H'.dom b g _ hg
    obtain ⟨x, hx⟩ : ∃ x, hp1[b]? = some x := ⟨hp1[b], List.getElem?_eq_getElem hb⟩
    cases x with
    | row es sz wg com => exact (((H'.row b es sz wg com hx).2 g _ cap hg).2.2.2.2 c rfl).1
    | sit s pos => obtain ⟨_, c', e, h1, _⟩ := H'.sit b s pos hx g _ cap hg; injection e with e; subst e; exact h1

theorem mapO_resolve {hp : Heap} {Y Z : Zone} {G : Ghost} {w : World} {args args' : List AV} {vs : Array Value} (h : mapO (resolve hp depth) args = some args') (hl : LRel Z G w args vs)
    (hr : ∀ v v' x, v ∈ args → resolve hp depth v = some v' → Rel Z G w v x → PRel Y w v' x) : LPRel Y w args' vs := by
  obtain ⟨h1, h2⟩ := mapO_some h
  refine ⟨by rw [h1]; exact hl.1, fun i hi => ?_⟩
  have hi' : i < args.length := by omega
  obtain ⟨b, hb, hfb⟩ := h2 i args[i] (by simp [hi'])
  have := hl.2 i hi'
  rw [show args.getD i .undef = args[i] by simp [List.getD_eq_getElem?_getD, hi']] at this
  rw [show args'.getD i .undef = b by simp [List.getD_eq_getElem?_getD, hb]]
  exact hr _ _ _ (List.getElem_mem hi') hfb this

/-- A call with values whose own memory is read first. -/
theorem callPure_ok {w0 : World} {base : Nat} {Z : Zone} {G : Ghost} {hp : Heap} {w : World} (S : Sit w0 base Z w) (H : HRel base Z G hp w) {f : FuncId} {args args' : List AV} {vs : Array Value} {r : AV} (hl : LRel Z G w args vs) (hm : mapO (resolve hp depth) args = some args')
    (hP : PureOk P w0 f args' r) (hc : (args.all AV.isPure || r.scalar) = true) : Calls P f vs w fun e w' => ∃ v, e = .returned v ∧ OpPost base Z G hp w r v w' := by
  by_cases hp' : args.all AV.isPure = true
  · have hlp : LPRel Z w args' vs := mapO_resolve hm hl fun v v' x hv hr hx => by
      simp only [List.all_eq_true] at hp'
      exact resolve_pure hr (hp' v hv) (hx.toPure (hp' v hv))
    refine (hP Z w vs S.below S.old H.zone hlp).mono ?_
    rintro e w' ⟨v, Z', rfl, hb, h1, h2, h3, hr⟩
    obtain ⟨H', EX⟩ := H.afterPure hb h1 h2 h3
    exact ⟨v, rfl, Z', G, EX, H', .pure hr⟩
  · have hs : r.scalar = true := by simpa [hp'] using hc
    have hlp : LPRel (fun c _ => c < w.heap.size) w args' vs := mapO_resolve hm hl fun v v' x _ hr hx =>
      resolve_ok H (fun c j h => H.zone c j h) (fun b g c cap hg j => H.old hg) depth v v' x hr hx
    refine (hP (fun c _ => c < w.heap.size) w vs S.below (fun c j h => Nat.lt_of_lt_of_le h S.below.size) (fun c j h => h) hlp).mono ?_
    rintro e w' ⟨v, Z', rfl, hb, h1, h2, h3, hr⟩
    obtain ⟨H', EX⟩ := H.afterPure hb (fun c j h => h) (fun c j h => .inl h) (fun c j h => Nat.lt_of_lt_of_le (H.zone c j h) hb.size)
    exact ⟨v, rfl, Z, G, EX, H', .pure (hr.ofScalar hs)⟩

theorem evCall_ok {w0 : World} (hE : EnvOk E P w0) {callF : CallF} (hC : CallOk P w0 callF) {base : Nat} {Z : Zone} {G : Ghost} {hp hp' : Heap} {w : World} (S : Sit w0 base Z w) (H : HRel base Z G hp w) {f : FuncId} {args : List AV} {vs : Array Value} {r : AV} (hl : LRel Z G w args vs)
    (h : evCall E callF hp f args = some (r, hp')) : Enters P f ∧ Calls P f vs w fun e w' => ∃ v, e = .returned v ∧ OpPost base Z G hp' w r v w' := by
  unfold evCall at h
  split at h
  · split at h
    rotate_left
    · cases h
    rename_i args' hm
    split at h
    rotate_left
    · cases h
    rename_i r' hr
    split at h
    rotate_left
    · cases h
    rename_i hc
    injection h with h; injection h with h1 h2; subst h1; subst h2
    obtain ⟨h1, h2⟩ := pureF_ok hC hr
    exact ⟨h1, callPure_ok S H hl hm h2 hc⟩
  · split at h
    rotate_left
    · cases h
    rename_i r' hp1 hc
    injection h with h; injection h with h1 h2; subst h1; subst h2
    obtain ⟨h1, h2⟩ := hC _ _ _ _ _ hc
    refine ⟨h1, (h2 base Z G w vs S H hl).mono ?_⟩
    rintro e w' ⟨v, rfl, Z', G', EX, H', hr⟩
    obtain ⟨G2, k1, k2, k3⟩ := letGo_ok H' hp.length [r']
    exact ⟨v, rfl, Z', G2, ⟨EX.zsub, k3 G EX.gle (fun b g r h => H.dom b g r h) (fun b z h => lt_of_get (H.pend b z.1 z.2 h).1), EX.below, EX.keep, EX.znew⟩, k1, k2 _ _ (by simp) hr⟩
  · split at h
    rotate_left
    · cases h
    rename_i args' hm
    split at h
    rotate_left
    · cases h
    rename_i r' hr
    split at h
    rotate_left
    · cases h
    rename_i hc
    injection h with h; injection h with h1 h2; subst h1; subst h2
    obtain ⟨h1, h2⟩ := hE.lib _ _ _ hr
    exact ⟨h2, callPure_ok S H hl hm h1 hc⟩

/-- An operation, a call or not. -/
theorem evAny_wp {w0 : World} (hE : EnvOk E P w0) {callF : CallF} (hC : CallOk P w0 callF) {base : Nat} {Z : Zone} {G : Ghost} {hp hp' : Heap} {w : World} (S : Sit w0 base Z w) (H : HRel base Z G hp w) {D : Nat → Prop} {tm : List AV} {a : Act} (T : TRel Z G w D tm a.tmps) {o : Oper} {r : AV}
    (hD : ∀ t, .tmp t ∈ o.op.operands → ¬ D t) (h : evAny E callF tm hp o.op = some (r, hp')) (next : Act → World → Prop) (Q : Exit → Act → World → Prop) (hn : ∀ v w', OpPost base Z G hp' w r v w' → next (a.put o.dst v) w') : o.wp P a w next Q := by
  have plain : evOp E tm hp o.op = some (r, hp') → o.wp P a w next Q := by
    intro h
    obtain ⟨v, w', h1, h2⟩ := evOp_ok hE S H T hD h
    unfold Oper.wp
    rcases h1 with h1 | ⟨h1, rfl⟩
    · rw [h1, Oper.upon_value]; exact hn v w' h2
    · rw [h1, Oper.upon_skip]; exact hn _ w' h2
  unfold evAny at h
  split at h
  · rename_i f args ts hop
    split at h
    rotate_left
    · cases h
    rename_i g caps hf
    have hfr := opnd_ok hE S T f (fun t ht => hD t (by rw [hop, ht]; simp [Op.operands, Call.operands]))
    rw [hf] at hfr
    obtain ⟨cs, hcs, hcl, hcr⟩ := hfr.fn_inv
    have hargs := opnds_ok hE S T args (fun t ht => hD t (by rw [hop]; simp [Op.operands, Call.operands, ht]))
    have hl : LRel Z G w (args.toList.map (opnd E tm) ++ caps) (args.map a.eval ++ cs) := by
      refine ⟨by simp [hcl], fun i hi => ?_⟩
      rw [append_getD]
      by_cases hlt : i < (args.toList.map (opnd E tm)).length
      · rw [if_pos hlt]
        have hlt' : i < args.size := by simpa using hlt
        have : (args.map a.eval ++ cs).getD i Go.undef = (args.map a.eval).getD i Go.undef := by
          rw [Array.getD_eq_getD_getElem?, Array.getD_eq_getD_getElem?, Array.getElem?_append_left (by simpa using hlt')]
        rw [this]; exact hargs.2 i hlt
      · rw [if_neg hlt]
        have hge : args.size ≤ i := by simpa using hlt
        have : (args.map a.eval ++ cs).getD i Go.undef = cs.getD (i - args.size) Go.undef := by
          rw [Array.getD_eq_getD_getElem?, Array.getD_eq_getD_getElem?, Array.getElem?_append_right (by simpa using hge)]; simp
        rw [this]
        have := hcr (i - args.size) (by simp at hi; omega)
        simpa using this
    obtain ⟨hen, hcall⟩ := evCall_ok hE hC S H hl h
    unfold Oper.wp
    have hrun : (execOp a.eval o).run P w = .ok (.enter g (args.map a.eval ++ cs)) w := by
      unfold execOp
      rw [hop]
      simp only [Go.resolve, hcs, Deferred.ofValue, Sem.run_bind, Sem.run_pure, Result.andThen_ok, invoke, Array.empty_append, hen.run]
    rw [hrun, Oper.upon_enter]
    refine hcall.mono ?_
    rintro e w' ⟨v, rfl, hpost⟩
    exact hn v w' hpost
  · exact plain h

theorem put_rel {Z : Zone} {G : Ghost} {w : World} {D : Nat → Prop} {tm : List AV} {a : Act} (T : TRel Z G w D tm a.tmps) (dst : Option Tmp) {x : AV} {v : Value} (h : Rel Z G w x v) : TRel Z G w D (putAV tm dst x) (a.put dst v).tmps := by
  cases dst with
  | none => exact T
  | some d => exact T.set h
theorem put_defers (a : Act) (dst : Option Tmp) (v : Value) : (a.put dst v).defers = a.defers := by cases dst <;> rfl

theorem guard_ok {Z : Zone} {G : Ghost} {w : World} {D : Nat → Prop} {tm : List AV} {a : Act} (T : TRel Z G w D tm a.tmps) {ops : Array Oper} {o : Oper} {b : Bool}
    (hD : ∀ j want d, o.guard = some (j, want) → (ops[j]?).bind (·.dst) = some d → ¬ D d) (h : guardAV ops.toList tm o = some b) : Region.wanted o (yielded ops a.tmps) = b := by
  unfold guardAV at h
  unfold Region.wanted
  split at h
  · rename_i hg; rw [hg]; injection h
  · rename_i j want hg
    rw [hg]
    simp only [Array.getElem?_toList] at h
    simp only [yielded]
    cases hd : (ops[j]?).bind (·.dst) with
    | none => rw [hd] at h; cases h; rfl
    | some d =>
      rw [hd] at h
      simp only at h
      have hl := T.len
      have hD' := hD j want d hg hd
      split at h
      · rename_i c hc
        injection h with h; subst h
        have hdl : d < tm.length := by
          rcases Nat.lt_or_ge d tm.length with h | h
          · exact h
          · rw [List.getElem?_eq_none h] at hc; cases hc
        have hr := T.rel d hdl hD'
        rw [show tm.getD d .undef = .bool c by simp [List.getD_eq_getElem?_getD, hc]] at hr
        have hv := hr.bool_inv
        have hds : d < a.tmps.size := by rw [← T.len]; exact hdl
        have : a.tmps[d]? = some (.bool c) := by rw [← hv]; exact Array.getD_of_lt _ _ _ hds
        simp [this]
      · rename_i hc
        injection h with h; subst h
        have hdl : d < tm.length := by
          rcases Nat.lt_or_ge d tm.length with h | h
          · exact h
          · rw [List.getElem?_eq_none h] at hc; cases hc
        have hr := T.rel d hdl hD'
        rw [show tm.getD d .undef = .tup [] by simp [List.getD_eq_getElem?_getD, hc]] at hr
        obtain ⟨us, hu, _⟩ := hr.tup_inv
        have hds : d < a.tmps.size := by rw [← T.len]; exact hdl
        have : a.tmps[d]? = some (.tuple us) := by rw [← hu]; exact Array.getD_of_lt _ _ _ hds
        simp [this]
      · cases h

/-- What a piece of code comes to. -/
def Lands (base : Nat) (Z : Zone) (G : Ghost) (w : World) (st : St) (a : Act) (w' : World) : Prop :=
  a.defers = [] ∧ ∃ Z' G', Ext base Z G w Z' G' w' ∧ HRel base Z' G' st.hp w' ∧ TRel Z' G' w' (fun _ => False) st.tm a.tmps
theorem Lands.trans {base : Nat} {Z Z' : Zone} {G G' : Ghost} {w w' w'' : World} {st : St} {a : Act} (h : Ext base Z G w Z' G' w') (k : Lands base Z' G' w' st a w'') : Lands base Z G w st a w'' := by
  obtain ⟨h1, Z2, G2, e, H, T⟩ := k
  exact ⟨h1, Z2, G2, h.trans e, H, T⟩

theorem evOps_wp {w0 : World} (hE : EnvOk E P w0) {callF : CallF} (hC : CallOk P w0 callF) {base : Nat} {ops : Array Oper} {Q : Exit → Act → World → Prop} : ∀ (l : List Oper) (i : Nat) (st st' : St) (Z : Zone) (G : Ghost) (a : Act) (w : World), ops.toList.drop i = l → Sit w0 base Z w → HRel base Z G st.hp w →
    TRel Z G w (fun _ => False) st.tm a.tmps → a.defers = [] → evOps E callF ops.toList l st = some st' → (∀ a' w', Lands base Z G w st' a' w' → Q .normal a' w') → wpOps P ops Q (List.range' i l.length) a w
  | [], i, st, st', Z, G, a, w, _, S, H, T, hd, h, hQ => by
    simp only [evOps, Option.some.injEq] at h; subst h
    exact hQ a w ⟨hd, Z, G, .refl _ _ _ _, H, T⟩
  | o :: l, i, st, st', Z, G, a, w, hl, S, H, T, hd, h, hQ => by
    have hi : i < ops.toList.length := by
      rcases Nat.lt_or_ge i ops.toList.length with h | h
      · exact h
      · rw [List.drop_eq_nil_of_le h] at hl; cases hl
    have ho : ops[i]? = some o := by
      have : ops.toList[i]? = some o := by
        have h1 : (ops.toList.drop i)[0]? = some o := by rw [hl]; rfl
        simpa using h1
      simpa using this
    have hl' : ops.toList.drop (i + 1) = l := by
      rw [← List.drop_drop, hl]; rfl
    simp only [List.length_cons, List.range'_succ]
    simp only [wpOps, ho]
    simp only [evOps] at h
    split at h
    · rename_i hg
      rw [if_pos (guard_ok T (fun _ _ _ _ _ h => h) hg)]
      split at h
      · rename_i v hp hv
        refine .inl (evAny_wp hE hC S H T (fun _ _ h => h) hv _ _ fun x w' hpost => ?_)
        obtain ⟨Z', G', EX, H', hr⟩ := hpost
        exact evOps_wp hE hC l (i + 1) _ st' Z' G' _ w' hl' (S.ext EX) H' (put_rel (T.ext EX) o.dst hr) (by rw [put_defers]; exact hd) h fun a' w'' hla => hQ a' w'' (hla.trans EX)
      · cases h
    · rename_i hg
      rw [if_neg (by rw [guard_ok T (fun _ _ _ _ _ h => h) hg]; exact Bool.false_ne_true)]
      have hu : Rel Z G w (.tup []) Go.undef := .pure (.tup [] #[] rfl (fun i hi => by simp at hi))
      exact evOps_wp hE hC l (i + 1) ⟨putAV st.tm o.dst (.tup []), st.hp⟩ st' Z G _ w hl' S H (put_rel T o.dst hu) (by rw [put_defers]; exact hd) h hQ
    · cases h
end Go.EV
