/-
  The evaluator is right: code, functions, calls of any depth.
-/
import Derived.Test.YtkdjkbgcebodgaaDoorEvZ
set_option linter.unusedSimpArgs false
set_option linter.unusedVariables false
namespace Go.EV
open Go.RowKit
variable {E : Env} {P : Program}

def X.toExit : X → Exit
  | .normal => .normal
  | .exit id => .exit id
  | .ret => .ret
/-- Where a piece of code leads. -/
def Goes (base : Nat) (Z : Zone) (G : Ghost) (w : World) (x : X) (st : St) : Exit → Act → World → Prop := fun e a w' => e = x.toExit ∧ Lands base Z G w st a w'

theorem code_ok {w0 : World} (hE : EnvOk E P w0) {callF : CallF} (hC : CallOk P w0 callF) {base : Nat} {f : FuncId} {n : Nat} : ∀ (c : Code) (cur : Nat) (st : St) (x : X) (st' : St), evCode E callF (iter n) f cur c st = some (x, st') →
    ∀ (Z : Zone) (G : Ghost) (a : Act) (w : World), Sit w0 base Z w → HRel base Z G st.hp w → TRel Z G w (fun _ => False) st.tm a.tmps → a.defers = [] → c.wp P (Goes base Z G w x st') a w
  | .skip, cur, st, x, st', h, Z, G, a, w, S, H, T, hd => by
    simp only [evCode, Option.some.injEq, Prod.mk.injEq] at h
    obtain ⟨rfl, rfl⟩ := h
    exact wp_skip ⟨rfl, hd, Z, G, .refl _ _ _ _, H, T⟩
  | .region id ops draw, cur, st, x, st', h, Z, G, a, w, S, H, T, hd => by
    simp only [evCode] at h
    split at h
    · rename_i s hs
      injection h with h; injection h with h1 h2; subst h1; subst h2
      exact evRegion_wp hE hC S H T hd hs fun a' w' hl => ⟨rfl, hl⟩
    · cases h
  | .seq c d, cur, st, x, st', h, Z, G, a, w, S, H, T, hd => by
    simp only [evCode] at h
    split at h
    · rename_i s hs
      refine wp_seq (wp_mono (code_ok hE hC c cur st .normal s hs Z G a w S H T hd) ?_)
      rintro e a' w' ⟨rfl, hd', Z', G', EX, H', T'⟩
      refine wp_mono (code_ok hE hC d cur s x st' h Z' G' a' w' (S.ext EX) H' T' hd') ?_
      rintro e a2 w2 ⟨rfl, hl⟩
      exact ⟨rfl, hl.trans EX⟩
    · rename_i hn
      refine wp_seq (wp_mono (code_ok hE hC c cur st x st' h Z G a w S H T hd) ?_)
      rintro e a' w' ⟨rfl, hl⟩
      cases x with
      | normal => exact absurd h (hn st')
      | exit id => exact ⟨rfl, hl⟩
      | ret => exact ⟨rfl, hl⟩
  | .cond o c d, cur, st, x, st', h, Z, G, a, w, S, H, T, hd => by
    simp only [evCode] at h
    have ho := opnd_ok hE S T o (fun _ _ h => h)
    split at h
    · rename_i hb
      rw [hb] at ho
      exact wp_cond_true ho.bool_inv (code_ok hE hC c cur st x st' h Z G a w S H T hd)
    · rename_i hb
      rw [hb] at ho
      exact wp_cond_false ho.bool_inv (code_ok hE hC d cur st x st' h Z G a w S H T hd)
    · cases h
  | .block id c, cur, st, x, st', h, Z, G, a, w, S, H, T, hd => by
    simp only [evCode] at h
    split at h
    · rename_i id' s hs
      refine wp_block (wp_mono (code_ok hE hC c id st (.exit id') s hs Z G a w S H T hd) ?_)
      rintro e a' w' ⟨rfl, hl⟩
      show Exit.inBlock id _ (.exit id') a' w'
      simp only [Exit.inBlock]
      split at h
      · rename_i e
        injection h with h; injection h with h1 h2; subst h1; subst h2
        rw [if_pos e]; exact ⟨rfl, hl⟩
      · rename_i e
        injection h with h; injection h with h1 h2; subst h1; subst h2
        rw [if_neg e]; exact ⟨rfl, hl⟩
    · rename_i hn
      refine wp_block (wp_mono (code_ok hE hC c id st x st' h Z G a w S H T hd) ?_)
      rintro e a' w' ⟨rfl, hl⟩
      cases x with
      | normal => exact ⟨rfl, hl⟩
      | exit id' => exact absurd h (hn id' st')
      | ret => exact ⟨rfl, hl⟩
  | .loop c, cur, st, x, st', h, Z, G, a, w, S, H, T, hd => by
    simp only [evCode] at h
    -- rounds, whatever is forgotten at their heads
    have rounds : ∀ (nm : St → St) (G0 : Ghost) (Z0 : Zone) (wS : World),
        (∀ (st : St) (Z : Zone) (G : Ghost) (a : Act) (w : World), G0.le G → HRel base Z G st.hp w → TRel Z G w (fun _ => False) st.tm a.tmps → ∃ G', G0.le G' ∧ HRel base Z G' (nm st).hp w ∧ TRel Z G' w (fun _ => False) (nm st).tm a.tmps) →
        ∀ (k : Nat) (st : St) (x : X) (st' : St), iter k (evCode E callF (iter n) f cur c) nm st = some (x, st') → ∀ (Z : Zone) (G : Ghost) (a : Act) (w : World), Ext base Z0 G0 wS Z G w → Sit w0 base Z w → HRel base Z G st.hp w → TRel Z G w (fun _ => False) st.tm a.tmps → a.defers = [] →
          Code.rounds P c (Goes base Z0 G0 wS x st') k a w := by
      intro nm G0 Z0 wS hnm k
      induction k with
      | zero => intro st x st' h; simp [iter] at h
      | succ k ih =>
        intro st x st' h Z G a w EX S H T hd
        rw [rounds_succ]
        obtain ⟨G', hle, H', T'⟩ := hnm st Z G a w EX.gle H T
        have EX' : Ext base Z0 G0 wS Z G' w := ⟨EX.zsub, hle, EX.below, EX.keep, EX.znew⟩
        simp only [iter] at h
        split at h
        · rename_i s hs
          refine wp_mono (code_ok hE hC c cur (nm st) .normal s hs Z G' a w S H' T' hd) ?_
          rintro e a' w' ⟨rfl, hd', Z2, G2, EX2, H2, T2⟩
          exact ih s x st' h Z2 G2 a' w' (EX'.trans EX2) (S.ext EX2) H2 T2 hd'
        · rename_i hn
          refine wp_mono (code_ok hE hC c cur (nm st) x st' h Z G' a w S H' T' hd) ?_
          rintro e a' w' ⟨rfl, hl⟩
          have hl' := hl.trans EX'
          cases x with
          | normal => exact absurd h (hn st')
          | exit id => exact ⟨rfl, hl'⟩
          | ret => exact ⟨rfl, hl'⟩
    split at h
    · rename_i an _
      obtain ⟨G1, H1, T1, hle⟩ := prepOwn_ok (a := a) an.own H T
      refine wp_mono (wp_loop_rounds n (rounds (normSt an.live (prepOwn an.own st).hp.length) G1 Z w (fun st2 Z2 G2 a2 w2 hle2 H2 T2 => ?_) n (prepOwn an.own st) x st' h Z G1 a w (.refl _ _ _ _) S H1 T1 hd)) ?_
      · obtain ⟨G', k1, k2, k3⟩ := normSt_ok H2 T2 an.live (prepOwn an.own st).hp.length
        exact ⟨G', k3 G1 hle2 (fun b g r h => H1.dom b g r h) (fun b z h => lt_of_get (H1.pend b z.1 z.2 h).1), k1, k2⟩
      · rintro e a' w' ⟨rfl, hl⟩
        exact ⟨rfl, hl.trans ⟨fun _ _ h => h, hle, .refl _ _, fun _ _ _ => rfl, fun _ _ h => .inl h⟩⟩
    · exact wp_loop_rounds n (rounds id G Z w (fun st2 Z2 G2 a2 w2 hle2 H2 T2 => ⟨G2, hle2, H2, T2⟩) n st x st' h Z G a w (.refl _ _ _ _) S H T hd)
  | .exit id, cur, st, x, st', h, Z, G, a, w, S, H, T, hd => by
    simp only [evCode, Option.some.injEq, Prod.mk.injEq] at h
    obtain ⟨rfl, rfl⟩ := h
    exact wp_exit ⟨rfl, hd, Z, G, .refl _ _ _ _, H, T⟩
  | .label l, cur, st, x, st', h, Z, G, a, w, S, H, T, hd => by
    simp only [evCode, Option.some.injEq, Prod.mk.injEq] at h
    obtain ⟨rfl, rfl⟩ := h
    exact wp_label ⟨rfl, hd, Z, G, .refl _ _ _ _, H, T⟩
  | .ret, cur, st, x, st', h, Z, G, a, w, S, H, T, hd => by
    simp only [evCode, Option.some.injEq, Prod.mk.injEq] at h
    obtain ⟨rfl, rfl⟩ := h
    exact wp_ret ⟨rfl, hd, Z, G, .refl _ _ _ _, H, T⟩
  | .scope _, cur, st, x, st', h, _, _, _, _, _, _, _, _ => by simp [evCode] at h
  | .goto _, cur, st, x, st', h, _, _, _, _, _, _, _, _ => by simp [evCode] at h
  | .rangeFunc _ _ _ _, cur, st, x, st', h, _, _, _, _, _, _, _, _ => by simp [evCode] at h
  | .refuse _, cur, st, x, st', h, _, _, _, _, _, _, _, _ => by simp [evCode] at h

def resVar (tmps : Array Value) : ResultVar → Sem Value
  | .tmp t => pure (tmps.getD t Go.undef)
  | .cell p t => do loadVar t (← asAddr (tmps.getD p Go.undef))
theorem results_eq (fd : Func) (tmps : Array Value) : results fd tmps = (do
    let vs ← fd.results.mapM (resVar tmps)
    pure (if h : vs.size = 1 then vs[0] else .tuple vs)) := by
  unfold results
  congr 1
theorem resultVar_ok {w0 : World} (hE : EnvOk E P w0) {base : Nat} {Z : Zone} {G : Ghost} {w : World} {st : St} {a : Act} (H : HRel base Z G st.hp w) (T : TRel Z G w (fun _ => False) st.tm a.tmps) {v : ResultVar} {r : AV} (h : resultAV E st v = some r) :
    ∃ x, (resVar a.tmps v).run P w = .ok x w ∧ Rel Z G w r x := by
  cases v with
  | tmp t =>
    simp only [resultAV, Option.some.injEq] at h; subst h
    exact ⟨_, rfl, T.get t fun h => h⟩
  | cell p t =>
    simp only [resultAV] at h
    have hp := T.get p fun h => h
    obtain ⟨x, hx, hr⟩ := load_ok (P := P) H hE.ti hp h
    refine ⟨x, ?_, hr⟩
    have hptr : ∃ ad, a.tmps.getD p Go.undef = .pointer (some ad) := by
      unfold loadAV at h
      split at h
      · rename_i he; rw [he] at hp; exact hp.ip_inv
      · rename_i he; rw [he] at hp; exact hp.mp_inv
      · cases h
    obtain ⟨ad, had⟩ := hptr
    rw [had] at hx
    simp only [Instr.loadAt, Instr.sureAddr, Sem.run_bind, Sem.run_pure, Result.andThen_ok] at hx
    simp only [resVar, had, Sem.run_bind, asAddr, Sem.run_pure, Result.andThen_ok, hx]

theorem mapM_ok {α : Type} {w : World} {Z : Zone} {G : Ghost} {f : α → Option AV} {g : α → Sem Value} : ∀ {l : List α} {rs : List AV}, mapO f l = some rs → (∀ a r, f a = some r → ∃ x, (g a).run P w = .ok x w ∧ Rel Z G w r x) →
    ∃ xs : List Value, (l.mapM g).run P w = .ok xs w ∧ xs.length = rs.length ∧ ∀ i, i < rs.length → Rel Z G w (rs.getD i .undef) (xs.getD i Go.undef)
  | [], rs, h, _ => by
    simp only [mapO, Option.some.injEq] at h; subst h
    exact ⟨[], rfl, rfl, fun i hi => by simp at hi⟩
  | a :: l, rs, h, hf => by
    simp only [mapO] at h
    cases hfa : f a with
    | none => rw [hfa] at h; cases h
    | some r =>
      cases hm : mapO f l with
      | none => rw [hfa, hm] at h; cases h
      | some rs' =>
        rw [hfa, hm] at h; injection h with h; subst h
        obtain ⟨x, hx, hr⟩ := hf a r hfa
        obtain ⟨xs, h1, h2, h3⟩ := mapM_ok hm hf
        refine ⟨x :: xs, ?_, by simp [h2], fun i hi => ?_⟩
        · simp only [List.mapM_cons, Sem.run_bind, hx, Result.andThen_ok, h1, Sem.run_pure]
        · cases i with
          | zero => simpa using hr
          | succ i => simpa using h3 i (by simpa using hi)

theorem results_ok {w0 : World} (hE : EnvOk E P w0) {base : Nat} {Z : Zone} {G : Ghost} {w : World} {st : St} {a : Act} (H : HRel base Z G st.hp w) (T : TRel Z G w (fun _ => False) st.tm a.tmps) {fd : Func} {r : AV} (h : resultsAV E fd st = some r) :
    ∃ x, (results fd a.tmps).run P w = .ok x w ∧ Rel Z G w r x := by
  unfold resultsAV at h
  have key : ∀ rs, mapO (resultAV E st) fd.results.toList = some rs → ∃ xs : List Value, (results fd a.tmps).run P w = .ok (if h : xs.toArray.size = 1 then xs.toArray[0] else .tuple xs.toArray) w ∧ xs.length = rs.length ∧ ∀ i, i < rs.length → Rel Z G w (rs.getD i .undef) (xs.getD i Go.undef) := by
    intro rs hrs
    obtain ⟨xs, h1, h2, h3⟩ := mapM_ok (P := P) (g := resVar a.tmps) hrs (fun v r hv => resultVar_ok hE H T hv)
    refine ⟨xs, ?_, h2, h3⟩
    rw [results_eq]
    simp only [Array.mapM_eq_mapM_toList, Sem.run_bind, Sem.run_map, h1, Result.andThen_ok, Sem.run_pure]
  split at h
  · rename_i v hm
    injection h with h; subst h
    obtain ⟨xs, h1, h2, h3⟩ := key _ hm
    obtain ⟨x, rfl⟩ := List.length_eq_one_iff.1 (show xs.length = 1 by simpa using h2)
    exact ⟨x, by simpa using h1, by simpa using h3 0 (by simp)⟩
  · rename_i vs hne hm
    injection h with h; subst h
    obtain ⟨xs, h1, h2, h3⟩ := key _ hm
    have hne1 : ¬ xs.toArray.size = 1 := by
      intro e
      have : vs.length = 1 := by rw [← h2]; simpa using e
      obtain ⟨v, rfl⟩ := List.length_eq_one_iff.1 this
      exact hne v rfl
    rw [dif_neg hne1] at h1
    refine ⟨_, h1, .tup _ _ (by simp [h2]) fun i hi => ?_⟩
    rw [list_getD]; exact h3 i hi
  · cases h

theorem bodyF_ok {w0 : World} (hE : EnvOk E P w0) {callF : CallF} (hC : CallOk P w0 callF) {n : Nat} {f : FuncId} {args : List AV} {hp hp' : Heap} {r : AV} (h : bodyF E callF (iter n) f args hp = some (r, hp')) :
    Enters P f ∧ ∀ (base : Nat) (Z : Zone) (G : Ghost) (w : World) (vs : Array Value), Sit w0 base Z w → HRel base Z G hp w → LRel Z G w args vs → Calls P f vs w fun e w' => ∃ v, e = .returned v ∧ OpPost base Z G hp' w r v w' := by
  unfold bodyF at h
  split at h
  rotate_left
  · cases h
  rename_i fd hf
  obtain ⟨hfn, hname⟩ := hE.fn f fd hf
  split at h
  rotate_left
  · cases h
  rename_i c hc
  refine ⟨⟨fd, hfn, by rw [hc]; rfl, hname⟩, fun base Z G w vs S H hl => ?_⟩
  have T : TRel Z G w (fun _ => False) (args ++ List.replicate (fd.ntmps - args.length) (.tup [])) (vs ++ Array.replicate (fd.ntmps - vs.size) Go.undef) := by
    refine ⟨by simp [hl.1], fun i hi _ => ?_⟩
    rw [append_getD]
    by_cases hlt : i < args.length
    · rw [if_pos hlt]
      have : (vs ++ Array.replicate (fd.ntmps - vs.size) Go.undef).getD i Go.undef = vs.getD i Go.undef := by
        rw [Array.getD_eq_getD_getElem?, Array.getD_eq_getD_getElem?, Array.getElem?_append_left (by rw [← hl.1]; exact hlt)]
      rw [this]; exact hl.2 i hlt
    · rw [if_neg hlt]
      have hu : Rel Z G w (.tup []) Go.undef := .pure (.tup [] #[] rfl (fun i hi => by simp at hi))
      have h1 : (List.replicate (fd.ntmps - args.length) (AV.tup [])).getD (i - args.length) .undef = .tup [] := by
        have hi2 : i - args.length < fd.ntmps - args.length := by
          have := hi; simp only [List.length_append, List.length_replicate] at this; omega
        simp only [List.getD_eq_getElem?_getD, List.getElem?_replicate]
        rw [if_pos hi2]; rfl
      have h2 : (vs ++ Array.replicate (fd.ntmps - vs.size) Go.undef).getD i Go.undef = Go.undef := by
        rw [Array.getD_eq_getD_getElem?, Array.getElem?_append_right (by rw [← hl.1]; omega)]
        simp only [Array.getElem?_replicate]
        split <;> rfl
      rw [h1, h2]; exact hu
  have go : ∀ x st', evCode E callF (iter n) f 0 c ⟨args ++ List.replicate (fd.ntmps - args.length) (.tup []), hp⟩ = some (x, st') → (x = .normal ∨ x = .ret) → (resultsAV E fd st').map (·, st'.hp) = some (r, hp') →
      Calls P f vs w fun e w' => ∃ v, e = .returned v ∧ OpPost base Z G hp' w r v w' := by
    intro x st' hx hxx hr
    refine calls_of_wp hfn hc (wp_mono (code_ok hE hC c 0 _ x st' hx Z G { tmps := vs ++ Array.replicate (fd.ntmps - vs.size) Go.undef, defers := [] } w S H T rfl) ?_)
    rintro e a' w' ⟨rfl, hd', Z', G', EX, H', T'⟩
    cases hra : resultsAV E fd st' with
    | none => rw [hra] at hr; cases hr
    | some r' =>
      rw [hra] at hr; injection hr with hr; injection hr with h1 h2; subst h1; subst h2
      obtain ⟨v, hv, hrel⟩ := results_ok hE H' T' hra
      rcases hxx with rfl | rfl
      · exact ⟨hd', v, hv, v, rfl, Z', G', EX, H', hrel⟩
      · exact ⟨hd', v, hv, v, rfl, Z', G', EX, H', hrel⟩
  split at h
  · rename_i st' hx; exact go .normal st' hx (.inl rfl) h
  · rename_i st' hx; exact go .ret st' hx (.inr rfl) h
  · cases h

/-- THE EVALUATOR IS RIGHT. -/
theorem evFn_ok {w0 : World} (hE : EnvOk E P w0) : ∀ n, CallOk P w0 (evFn E n)
  | 0 => fun f args hp r hp' h => by simp [evFn] at h
  | n + 1 => fun f args hp r hp' h => bodyF_ok hE (evFn_ok hE n) (by simpa [evFn] using h)
end Go.EV
