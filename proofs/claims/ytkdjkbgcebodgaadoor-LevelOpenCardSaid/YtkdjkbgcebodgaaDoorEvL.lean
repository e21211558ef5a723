/-
  The evaluator without a bound on rounds and depth, and its equations.
-/
import Derived.Test.YtkdjkbgcebodgaaDoorEvZa
set_option linter.unusedSimpArgs false
set_option linter.unusedVariables false
namespace Go.EV
variable {E : Env}

def CLe (c d : CallF) : Prop := ∀ f a h r, c f a h = some r → d f a h = some r
def GLe (g g' : St → Option (X × St)) : Prop := ∀ s r, g s = some r → g' s = some r
def ILe (i j : Iter) : Prop := ∀ g g' nm st r, GLe g g' → i g nm st = some r → j g' nm st = some r

theorem pureF_mono {c d : CallF} (h : CLe c d) {f : FuncId} {args : List AV} {r : AV} (e : pureF c f args = some r) : pureF d f args = some r := by
  unfold pureF at e ⊢
  split at e
  · rename_i r1 hp1 hc
    rw [h _ _ _ _ hc]; exact e
  · cases e
theorem evCall_mono {c d : CallF} (h : CLe c d) {hp : Heap} {f : FuncId} {args : List AV} {r : AV × Heap} (e : evCall E c hp f args = some r) : evCall E d hp f args = some r := by
  unfold evCall at e ⊢
  split at e
  · split at e
    · rename_i args' ha
      split at e
      · rename_i r' hr
        (try rw [ha]); (try simp only); rw [pureF_mono h hr]; exact e
      · cases e
    · cases e
  · split at e
    · rename_i r' hp' hc
      rw [h _ _ _ _ hc]; exact e
    · cases e
  · exact e
theorem evAny_mono {c d : CallF} (h : CLe c d) {tm : List AV} {hp : Heap} {op : Op} {r : AV × Heap} (e : evAny E c tm hp op = some r) : evAny E d tm hp op = some r := by
  unfold evAny at e ⊢
  split at e
  · split at e
    · rename_i g caps hf
      (try rw [hf]); exact evCall_mono h e
    · cases e
  · exact e
theorem evOps_mono {c d : CallF} (h : CLe c d) {all : List Oper} : ∀ {l : List Oper} {st st' : St}, evOps E c all l st = some st' → evOps E d all l st = some st'
  | [], st, st', e => e
  | o :: l, st, st', e => by
    simp only [evOps] at e ⊢
    split at e
    · rename_i hg
      (try rw [hg])
      split at e
      · rename_i v hp hv
        (try simp only); rw [evAny_mono h hv]; exact evOps_mono h e
      · cases e
    · rename_i hg
      (try rw [hg]); exact evOps_mono h e
    · cases e
theorem evD_mono {c d : CallF} (h : CLe c d) {all : List Oper} {conf : List Nat} {o : Oper} {tm : List AV} {hp : Heap} {r : AV × Heap} (e : evD E c all conf o tm hp = some r) : evD E d all conf o tm hp = some r := by
  unfold evD at e ⊢
  split at e
  · rename_i hg
    (try rw [hg])
    split at e
    · rename_i hk
      simp only [hk, if_true]
      split at e
      · rename_i hc; simp only [hc, if_true]; exact evAny_mono h e
      · cases e
    · rename_i hk
      simp only [hk, if_false]; exact evAny_mono h e
  · rename_i hg; (try rw [hg]); exact e
  · cases e
theorem stepD_mono {c d : CallF} (h : CLe c d) {all : List Oper} {anc : List (List Nat)} {k : Nat} {st st' : St} (e : stepD E c all anc k st = some st') : stepD E d all anc k st = some st' := by
  unfold stepD at e ⊢
  split at e
  · rename_i o ho
    (try simp only [ho])
    split at e
    · rename_i v hp hv
      rw [evD_mono h hv]; exact e
    · cases e
  · cases e
theorem evListD_mono {c d : CallF} (h : CLe c d) {all : List Oper} {anc : List (List Nat)} : ∀ {l : List Nat} {st st' : St}, evListD E c all anc l st = some st' → evListD E d all anc l st = some st'
  | [], st, st', e => e
  | k :: l, st, st', e => by
    simp only [evListD] at e ⊢
    split at e
    · rename_i s hs
      rw [stepD_mono h hs]; exact evListD_mono h e
    · cases e
theorem evRegion_mono {c d : CallF} (h : CLe c d) {ops : Array Oper} {draw : Bool} {st st' : St} (e : evRegion E c ops draw st = some st') : evRegion E d ops draw st = some st' := by
  unfold evRegion at e ⊢
  split at e
  · rename_i hd
    rw [if_pos hd]
    split at e
    · rename_i hok
      rw [if_pos hok]
      split at e
      · rename_i s hs
        (try rw [hs]); exact evListD_mono h e
      · cases e
    · cases e
  · rename_i hd
    rw [if_neg hd]; exact evOps_mono h e
theorem evCode_mono {c d : CallF} {i j : Iter} (h : CLe c d) (hi : ILe i j) {f : FuncId} : ∀ {k : Code} {cur : Nat} {st : St} {r : X × St}, evCode E c i f cur k st = some r → evCode E d j f cur k st = some r
  | .skip, cur, st, r, e => by simpa [evCode] using e
  | .region id ops draw, cur, st, r, e => by
    simp only [evCode] at e ⊢
    split at e
    · rename_i s hs; rw [evRegion_mono h hs]; exact e
    · cases e
  | .seq a b, cur, st, r, e => by
    simp only [evCode] at e ⊢
    split at e
    · rename_i s hs; rw [evCode_mono h hi hs]; exact evCode_mono h hi e
    · rename_i hn
      have := evCode_mono h hi e
      rw [this]
      obtain ⟨x, s⟩ := r
      cases x with
      | normal => exact absurd e (hn s)
      | _ => rfl
  | .cond o a b, cur, st, r, e => by
    simp only [evCode] at e ⊢
    split at e
    · rename_i ho; (try rw [ho]); exact evCode_mono h hi e
    · rename_i ho; (try rw [ho]); exact evCode_mono h hi e
    · cases e
  | .block id b, cur, st, r, e => by
    simp only [evCode] at e ⊢
    split at e
    · rename_i id' s hs; rw [evCode_mono h hi hs]; exact e
    · rename_i hn
      have := evCode_mono h hi e
      rw [this]
      obtain ⟨x, s⟩ := r
      cases x with
      | exit id' => exact absurd e (hn id' s)
      | _ => rfl
  | .loop b, cur, st, r, e => by
    simp only [evCode] at e ⊢
    split at e
    · exact hi _ _ _ _ _ (fun s r => evCode_mono h hi) e
    · exact hi _ _ _ _ _ (fun s r => evCode_mono h hi) e
  | .exit id, cur, st, r, e => by simpa [evCode] using e
  | .label l, cur, st, r, e => by simpa [evCode] using e
  | .ret, cur, st, r, e => by simpa [evCode] using e
  | .scope _, cur, st, r, e => by simp [evCode] at e
  | .goto _, cur, st, r, e => by simp [evCode] at e
  | .rangeFunc _ _ _ _, cur, st, r, e => by simp [evCode] at e
  | .refuse _, cur, st, r, e => by simp [evCode] at e
theorem bodyF_mono {c d : CallF} {i j : Iter} (h : CLe c d) (hi : ILe i j) : CLe (bodyF E c i) (bodyF E d j) := by
  intro f args hp r e
  unfold bodyF at e ⊢
  split at e
  · rename_i fd hf
    (try simp only [hf])
    split at e
    · rename_i k hk
      (try simp only [hk])
      split at e
      · rename_i st hs; rw [evCode_mono h hi hs]; exact e
      · rename_i st hs; rw [evCode_mono h hi hs]; exact e
      · cases e
    · cases e
  · cases e

theorem iter_mono : ∀ {n m : Nat}, n ≤ m → ILe (iter n) (iter m)
  | 0, _, _ => fun g g' nm st r _ e => by simp [iter] at e
  | n + 1, 0, h => absurd h (by omega)
  | n + 1, m + 1, h => fun g g' nm st r hg e => by
    simp only [iter] at e ⊢
    split at e
    · rename_i s hs
      rw [hg _ _ hs]; exact iter_mono (by omega) g g' nm s r hg e
    · rename_i hn
      rw [hg _ _ e]
      obtain ⟨x, s⟩ := r
      cases x with
      | normal => exact absurd e (hn s)
      | _ => rfl
theorem evFn_mono : ∀ {n m : Nat}, n ≤ m → CLe (evFn E n) (evFn E m)
  | 0, _, _ => fun f a h r e => by simp [evFn] at e
  | n + 1, 0, h => absurd h (by omega)
  | n + 1, m + 1, h => fun f a hp r e => bodyF_mono (evFn_mono (by omega)) (iter_mono (by omega)) f a hp r e

open Classical in
/-- What a growing family of answers comes to. -/
noncomputable def lim {α : Type} (g : Nat → Option α) : Option α := if h : ∃ n r, g n = some r then some (Classical.choose (Classical.choose_spec h)) else none
theorem lim_iff {α : Type} {g : Nat → Option α} (hm : ∀ n m r, n ≤ m → g n = some r → g m = some r) (r : α) : lim g = some r ↔ ∃ n, g n = some r := by
  constructor
  · intro h
    unfold lim at h
    split at h
    · rename_i hex
      injection h with h
      exact ⟨_, h ▸ Classical.choose_spec (Classical.choose_spec hex)⟩
    · cases h
  · rintro ⟨n, hn⟩
    have hex : ∃ n r, g n = some r := ⟨n, r, hn⟩
    unfold lim
    rw [dif_pos hex]
    have h1 := Classical.choose_spec (Classical.choose_spec hex)
    have h2 := hm _ (max (Classical.choose hex) n) _ (Nat.le_max_left _ _) h1
    have h3 := hm n (max (Classical.choose hex) n) _ (Nat.le_max_right _ _) hn
    rw [h2] at h3; exact h3

noncomputable def callW (E : Env) : CallF := fun f a h => lim fun n => evFn E n f a h
noncomputable def iterW : Iter := fun g nm st => lim fun n => iter n g nm st
theorem callW_iff {f : FuncId} {a : List AV} {h : Heap} {r : AV × Heap} : callW E f a h = some r ↔ ∃ n, evFn E n f a h = some r := lim_iff (fun n m r hnm e => evFn_mono hnm _ _ _ _ e) r
theorem iterW_iff {g : St → Option (X × St)} {nm : St → St} {st : St} {r : X × St} : iterW g nm st = some r ↔ ∃ n, iter n g nm st = some r := lim_iff (fun n m r hnm e => iter_mono hnm g g nm st r (fun _ _ h => h) e) r

theorem evFn_le (n : Nat) : CLe (evFn E n) (callW E) := fun f a h r e => callW_iff.2 ⟨n, e⟩
theorem iter_le (n : Nat) : ILe (iter n) iterW := fun g g' nm st r hg e => iterW_iff.2 ⟨n, iter_mono (Nat.le_refl _) g g' nm st r hg e⟩

/-! What is reached without a bound is reached with some bound. -/
theorem pureF_fin {f : FuncId} {args : List AV} {r : AV} (e : pureF (callW E) f args = some r) : ∃ n, pureF (evFn E n) f args = some r := by
  unfold pureF at e
  split at e
  · rename_i r1 hp1 hc
    obtain ⟨n, hn⟩ := callW_iff.1 hc
    exact ⟨n, by unfold pureF; rw [hn]; exact e⟩
  · cases e
theorem evCall_fin {hp : Heap} {f : FuncId} {args : List AV} {r : AV × Heap} (e : evCall E (callW E) hp f args = some r) : ∃ n, evCall E (evFn E n) hp f args = some r := by
  unfold evCall at e
  split at e
  · rename_i hm
    split at e
    · rename_i args' ha
      split at e
      · rename_i r' hr
        obtain ⟨n, hn⟩ := pureF_fin hr
        exact ⟨n, by unfold evCall; simp only [hm, ha, hn]; exact e⟩
      · cases e
    · cases e
  · rename_i hm
    split at e
    · rename_i r' hp' hc
      obtain ⟨n, hn⟩ := callW_iff.1 hc
      exact ⟨n, by unfold evCall; simp only [hm, hn]; exact e⟩
    · cases e
  · rename_i h0 h1
    refine ⟨0, ?_⟩
    unfold evCall
    split
    · rename_i h; exact absurd h h0
    · rename_i h; exact absurd h h1
    · exact e
theorem evAny_fin {tm : List AV} {hp : Heap} {op : Op} {r : AV × Heap} (e : evAny E (callW E) tm hp op = some r) : ∃ n, evAny E (evFn E n) tm hp op = some r := by
  unfold evAny at e
  split at e
  · split at e
    · rename_i g caps hf
      obtain ⟨n, hn⟩ := evCall_fin e
      exact ⟨n, by unfold evAny; simp only [hf]; exact hn⟩
    · cases e
  · rename_i hop
    refine ⟨0, ?_⟩
    unfold evAny
    split
    · rename_i f args ts; exact absurd rfl (hop f args ts)
    · exact e
theorem evOps_fin {all : List Oper} : ∀ {l : List Oper} {st st' : St}, evOps E (callW E) all l st = some st' → ∃ n, evOps E (evFn E n) all l st = some st'
  | [], st, st', e => ⟨0, e⟩
  | o :: l, st, st', e => by
    simp only [evOps] at e
    split at e
    · rename_i hg
      split at e
      · rename_i v hp hv
        obtain ⟨n, hn⟩ := evAny_fin hv
        obtain ⟨m, hm⟩ := evOps_fin e
        refine ⟨max n m, ?_⟩
        simp only [evOps, hg]
        rw [evAny_mono (evFn_mono (Nat.le_max_left n m)) hn]
        exact evOps_mono (evFn_mono (Nat.le_max_right n m)) hm
      · cases e
    · rename_i hg
      obtain ⟨m, hm⟩ := evOps_fin e
      exact ⟨m, by simp only [evOps, hg]; exact hm⟩
    · cases e
theorem evD_fin {all : List Oper} {conf : List Nat} {o : Oper} {tm : List AV} {hp : Heap} {r : AV × Heap} (e : evD E (callW E) all conf o tm hp = some r) : ∃ n, evD E (evFn E n) all conf o tm hp = some r := by
  unfold evD at e
  split at e
  · rename_i hg
    split at e
    · rename_i hk
      split at e
      · rename_i hc
        obtain ⟨n, hn⟩ := evAny_fin e
        exact ⟨n, by unfold evD; simp only [hg, hk, hc, if_true]; exact hn⟩
      · cases e
    · rename_i hk
      obtain ⟨n, hn⟩ := evAny_fin e
      exact ⟨n, by unfold evD; simp only [hg, hk, if_false]; exact hn⟩
  · rename_i hg; exact ⟨0, by unfold evD; simp only [hg]; exact e⟩
  · cases e
theorem stepD_fin {all : List Oper} {anc : List (List Nat)} {k : Nat} {st st' : St} (e : stepD E (callW E) all anc k st = some st') : ∃ n, stepD E (evFn E n) all anc k st = some st' := by
  unfold stepD at e
  split at e
  · rename_i o ho
    split at e
    · rename_i v hp hv
      obtain ⟨n, hn⟩ := evD_fin hv
      exact ⟨n, by unfold stepD; simp only [ho, hn]; exact e⟩
    · cases e
  · cases e
theorem evListD_fin {all : List Oper} {anc : List (List Nat)} : ∀ {l : List Nat} {st st' : St}, evListD E (callW E) all anc l st = some st' → ∃ n, evListD E (evFn E n) all anc l st = some st'
  | [], st, st', e => ⟨0, e⟩
  | k :: l, st, st', e => by
    simp only [evListD] at e
    split at e
    · rename_i s hs
      obtain ⟨n, hn⟩ := stepD_fin hs
      obtain ⟨m, hm⟩ := evListD_fin e
      refine ⟨max n m, ?_⟩
      simp only [evListD]
      rw [stepD_mono (evFn_mono (Nat.le_max_left n m)) hn]
      exact evListD_mono (evFn_mono (Nat.le_max_right n m)) hm
    · cases e
theorem evRegion_fin {ops : Array Oper} {draw : Bool} {st st' : St} (e : evRegion E (callW E) ops draw st = some st') : ∃ n, evRegion E (evFn E n) ops draw st = some st' := by
  unfold evRegion at e
  split at e
  · rename_i hd
    split at e
    · rename_i hok
      split at e
      · rename_i s hs
        obtain ⟨n, hn⟩ := evListD_fin e
        exact ⟨n, by unfold evRegion; simp only [hd, if_true, hok, hs]; exact hn⟩
      · cases e
    · cases e
  · rename_i hd
    obtain ⟨n, hn⟩ := evOps_fin e
    exact ⟨n, by unfold evRegion; rw [if_neg hd]; exact hn⟩
theorem evCode_fin {f : FuncId} : ∀ {k : Code} {cur : Nat} {st : St} {r : X × St}, evCode E (callW E) iterW f cur k st = some r → ∃ n, evCode E (evFn E n) (iter n) f cur k st = some r
  | .skip, cur, st, r, e => ⟨0, by simpa [evCode] using e⟩
  | .region id ops draw, cur, st, r, e => by
    simp only [evCode] at e
    split at e
    · rename_i s hs
      obtain ⟨n, hn⟩ := evRegion_fin hs
      exact ⟨n, by simp only [evCode, hn]; exact e⟩
    · cases e
  | .seq a b, cur, st, r, e => by
    simp only [evCode] at e
    split at e
    · rename_i s hs
      obtain ⟨n, hn⟩ := evCode_fin hs
      obtain ⟨m, hm⟩ := evCode_fin e
      refine ⟨max n m, ?_⟩
      simp only [evCode]
      rw [evCode_mono (evFn_mono (Nat.le_max_left n m)) (iter_mono (Nat.le_max_left n m)) hn]
      exact evCode_mono (evFn_mono (Nat.le_max_right n m)) (iter_mono (Nat.le_max_right n m)) hm
    · rename_i hn
      obtain ⟨m, hm⟩ := evCode_fin e
      refine ⟨m, ?_⟩
      simp only [evCode, hm]
      obtain ⟨x, s⟩ := r
      cases x with
      | normal => exact absurd e (hn s)
      | _ => rfl
  | .cond o a b, cur, st, r, e => by
    simp only [evCode] at e
    split at e
    · rename_i ho
      obtain ⟨n, hn⟩ := evCode_fin e
      exact ⟨n, by simp only [evCode, ho]; exact hn⟩
    · rename_i ho
      obtain ⟨n, hn⟩ := evCode_fin e
      exact ⟨n, by simp only [evCode, ho]; exact hn⟩
    · cases e
  | .block id b, cur, st, r, e => by
    simp only [evCode] at e
    split at e
    · rename_i id' s hs
      obtain ⟨n, hn⟩ := evCode_fin hs
      exact ⟨n, by simp only [evCode, hn]; exact e⟩
    · rename_i hn
      obtain ⟨m, hm⟩ := evCode_fin e
      refine ⟨m, ?_⟩
      simp only [evCode, hm]
      obtain ⟨x, s⟩ := r
      cases x with
      | exit id' => exact absurd e (hn id' s)
      | _ => rfl
  | .loop b, cur, st, r, e => by
    simp only [evCode] at e
    have key : ∀ (nm : St → St) (k : Nat) (st : St) (r : X × St), iter k (evCode E (callW E) iterW f cur b) nm st = some r → ∃ n, iter k (evCode E (evFn E n) (iter n) f cur b) nm st = some r := by
      intro nm k
      induction k with
      | zero => intro st r e; simp [iter] at e
      | succ k ih =>
        intro st r e
        simp only [iter] at e
        split at e
        · rename_i s hs
          obtain ⟨n, hn⟩ := evCode_fin hs
          obtain ⟨m, hm⟩ := ih s r e
          refine ⟨max n m, ?_⟩
          simp only [iter]
          rw [evCode_mono (evFn_mono (Nat.le_max_left n m)) (iter_mono (Nat.le_max_left n m)) hn]
          exact iter_mono (Nat.le_refl k) _ _ nm s r (fun s r => evCode_mono (evFn_mono (Nat.le_max_right n m)) (iter_mono (Nat.le_max_right n m))) hm
        · rename_i hn
          obtain ⟨m, hm⟩ := evCode_fin e
          refine ⟨m, ?_⟩
          simp only [iter, hm]
          obtain ⟨x, s⟩ := r
          cases x with
          | normal => exact absurd e (hn s)
          | _ => rfl
    have fin : ∀ (nm : St → St) (st : St) (r : X × St), iterW (evCode E (callW E) iterW f cur b) nm st = some r → ∃ n, iter n (evCode E (evFn E n) (iter n) f cur b) nm st = some r := by
      intro nm st r e
      obtain ⟨k, hk⟩ := iterW_iff.1 e
      obtain ⟨n, hn⟩ := key nm k st r hk
      refine ⟨max k n, ?_⟩
      exact iter_mono (Nat.le_max_left k n) _ _ nm st r (fun s r => evCode_mono (evFn_mono (Nat.le_max_right k n)) (iter_mono (Nat.le_max_right k n))) hn
    split at e
    · rename_i an han
      obtain ⟨n, hn⟩ := fin _ _ _ e
      exact ⟨n, by simp only [evCode, han]; exact hn⟩
    · rename_i han
      obtain ⟨n, hn⟩ := fin _ _ _ e
      exact ⟨n, by simp only [evCode, han]; exact hn⟩
  | .exit id, cur, st, r, e => ⟨0, by simpa [evCode] using e⟩
  | .label l, cur, st, r, e => ⟨0, by simpa [evCode] using e⟩
  | .ret, cur, st, r, e => ⟨0, by simpa [evCode] using e⟩
  | .scope _, cur, st, r, e => by simp [evCode] at e
  | .goto _, cur, st, r, e => by simp [evCode] at e
  | .rangeFunc _ _ _ _, cur, st, r, e => by simp [evCode] at e
  | .refuse _, cur, st, r, e => by simp [evCode] at e

/-- The equation of a call. -/
theorem callW_eq (f : FuncId) (args : List AV) (hp : Heap) : callW E f args hp = bodyF E (callW E) iterW f args hp := by
  apply Option.ext
  intro r
  constructor
  · intro h
    obtain ⟨n, hn⟩ := callW_iff.1 h
    cases n with
    | zero => simp [evFn] at hn
    | succ n => exact bodyF_mono (evFn_le n) (iter_le n) f args hp r hn
  · intro h
    unfold bodyF at h
    split at h
    rotate_left
    · cases h
    rename_i fd hf
    split at h
    rotate_left
    · cases h
    rename_i k hk
    have go : ∀ x st, evCode E (callW E) iterW f 0 k ⟨args ++ List.replicate (fd.ntmps - args.length) (.tup []), hp⟩ = some (x, st) → ∃ n, evCode E (evFn E n) (iter n) f 0 k ⟨args ++ List.replicate (fd.ntmps - args.length) (.tup []), hp⟩ = some (x, st) := fun x st e => evCode_fin e
    split at h
    · rename_i st hs
      obtain ⟨n, hn⟩ := go _ _ hs
      exact callW_iff.2 ⟨n + 1, by show bodyF E (evFn E n) (iter n) f args hp = some r; unfold bodyF; simp only [hf, hk, hn]; exact h⟩
    · rename_i st hs
      obtain ⟨n, hn⟩ := go _ _ hs
      exact callW_iff.2 ⟨n + 1, by show bodyF E (evFn E n) (iter n) f args hp = some r; unfold bodyF; simp only [hf, hk, hn]; exact h⟩
    · cases h
/-- The equation of a loop. -/
theorem iterW_eq (g : St → Option (X × St)) (nm : St → St) (st : St) : iterW g nm st = match g (nm st) with
    | some (.normal, st') => iterW g nm st'
    | r => r := by
  apply Option.ext
  intro r
  constructor
  · intro h
    obtain ⟨n, hn⟩ := iterW_iff.1 h
    cases n with
    | zero => simp [iter] at hn
    | succ n =>
      simp only [iter] at hn
      split at hn
      · rename_i s hs
        rw [hs]; exact iterW_iff.2 ⟨n, hn⟩
      · rename_i hne
        rw [hn]
        obtain ⟨x, s⟩ := r
        cases x with
        | normal => exact absurd hn (hne s)
        | _ => rfl
  · intro h
    split at h
    · rename_i s hs
      obtain ⟨n, hn⟩ := iterW_iff.1 h
      exact iterW_iff.2 ⟨n + 1, by simp only [iter, hs]; exact hn⟩
    · rename_i hne
      refine iterW_iff.2 ⟨1, ?_⟩
      simp only [iter, h]
      obtain ⟨x, s⟩ := r
      cases x with
      | normal => exact absurd h (hne s)
      | _ => rfl

/-- The evaluator without bounds is right, too. -/
theorem callW_ok {P : Program} {w0 : World} (hE : EnvOk E P w0) : CallOk P w0 (callW E) := by
  intro f args hp r hp' h
  obtain ⟨n, hn⟩ := callW_iff.1 h
  exact evFn_ok hE n f args hp r hp' hn
end Go.EV
