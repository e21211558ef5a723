/-
  Regions that draw their order: whatever order the edges allow comes to what the evaluator says.
-/
import Derived.Test.YtkdjkbgcebodgaaDoorEvW
set_option linter.unusedSimpArgs false
set_option linter.unusedVariables false
namespace Go.EV
open Go.RowKit
variable {E : Env} {P : Program}

/-! Which slots an operation looks at. -/
theorem opnd_congr {tm tm' : List AV} {x : Operand} (h : ∀ t, x = .tmp t → tm.getD t .undef = tm'.getD t .undef) : opnd E tm x = opnd E tm' x := by
  cases x with
  | tmp t => exact h t rfl
  | _ => rfl
theorem map_opnd_congr {tm tm' : List AV} {xs : List Operand} (h : ∀ t, .tmp t ∈ xs → tm.getD t .undef = tm'.getD t .undef) : xs.map (opnd E tm) = xs.map (opnd E tm') :=
  List.map_congr_left fun x hx => opnd_congr fun t ht => h t (ht ▸ hx)

theorem evOp_congr {tm tm' : List AV} {hp : Heap} {op : Op} (h : ∀ t, .tmp t ∈ op.operands → tm.getD t .undef = tm'.getD t .undef) : evOp E tm hp op = evOp E tm' hp op := by
  have O : ∀ x, x ∈ op.operands → opnd E tm x = opnd E tm' x := fun x hx => opnd_congr fun t ht => h t (ht ▸ hx)
  cases op <;> simp only [evOp] <;> simp only [Op.operands] at O h
  case move x => rw [O x (by simp)]
  case assign x => rw [O x (by simp)]
  case pick c a b => rw [O c (by simp), O a (by simp), O b (by simp)]
  case box t x => rw [O x (by simp)]
  case build t ps =>
    have : (ps.toList.map fun p => (p.1, opnd E tm p.2)) = (ps.toList.map fun p => (p.1, opnd E tm' p.2)) :=
      List.map_congr_left fun p hp => by rw [O p.2 (by simp only [List.mem_toArray, List.mem_map]; exact ⟨p, hp, rfl⟩)]
    rw [this]
  case buildSlice t n ps =>
    have : (ps.toList.map fun p => (p.1, opnd E tm p.2)) = (ps.toList.map fun p => (p.1, opnd E tm' p.2)) :=
      List.map_congr_left fun p hp => by rw [O p.2 (by simp only [List.mem_toArray, List.mem_map]; exact ⟨p, hp, rfl⟩)]
    rw [this]
  case load t x => rw [O x (by simp)]
  case store t x y => rw [O x (by simp), O y (by simp)]
  case nilCheck x => rw [O x (by simp)]
  case binOp op t x y yt => rw [O x (by simp), O y (by simp)]
  case unOp op t x => rw [O x (by simp)]
  case convert s d x => rw [O x (by simp)]
  case makeInterface t x => rw [O x (by simp)]
  case makeFunc fn first caps =>
    cases fn <;> try rfl
    simp only
    rw [map_opnd_congr (tm := tm) (tm' := tm') fun t ht => h t (by simp at ht; simp [ht])]
  case makeSlice t l c => rw [O l (by simp), O c (by simp)]
  case slice t x lo hi mx =>
    have e1 : lo.map (opnd E tm) = lo.map (opnd E tm') := by cases lo with | none => rfl | some y => simp only [Option.map_some]; rw [O y (by simp)]
    have e2 : hi.map (opnd E tm) = hi.map (opnd E tm') := by cases hi with | none => rfl | some y => simp only [Option.map_some]; rw [O y (by simp)]
    have e3 : mx.map (opnd E tm) = mx.map (opnd E tm') := by cases mx with | none => rfl | some y => simp only [Option.map_some]; rw [O y (by simp)]
    rw [O x (by simp), e1, e2, e3]
  case fieldAddr t x f => rw [O x (by simp)]
  case field t x f => rw [O x (by simp)]
  case indexAddr t x i => rw [O x (by simp), O i (by simp)]
  case index t x i => rw [O x (by simp), O i (by simp)]
  case range t x => rw [O x (by simp)]
  case next x b => cases b <;> simp only [] <;> rw [O x (by simp)]
  case extract x i => rw [O x (by simp)]
  case call c =>
    obtain ⟨callee, args, ts⟩ := c
    cases callee <;> try rfl
    simp only
    rw [map_opnd_congr (tm := tm) (tm' := tm') fun t ht => h t (by simp at ht; simp [Call.operands, ht])]

theorem evAny_congr {callF : CallF} {tm tm' : List AV} {hp : Heap} {op : Op} (h : ∀ t, .tmp t ∈ op.operands → tm.getD t .undef = tm'.getD t .undef) : evAny E callF tm hp op = evAny E callF tm' hp op := by
  unfold evAny
  split
  · rename_i f args ts
    have hf : opnd E tm f = opnd E tm' f := opnd_congr fun t ht => h t (by simp [Op.operands, Call.operands, ht])
    have ha : args.toList.map (opnd E tm) = args.toList.map (opnd E tm') := map_opnd_congr fun t ht => h t (by simp at ht; simp [Op.operands, Call.operands, ht])
    rw [hf, ha]
  · exact evOp_congr h

theorem mem_looksAt {ops : Array Oper} {o : Oper} {t : Nat} (h : .tmp t ∈ o.op.operands) : t ∈ o.looksAt ops := by
  unfold Oper.looksAt
  refine List.mem_append_left _ ?_
  simp only [List.mem_filterMap]
  exact ⟨.tmp t, by simpa using h, rfl⟩
theorem guard_looksAt {ops : Array Oper} {o : Oper} {j : Nat} {want : Bool} {d : Nat} (hg : o.guard = some (j, want)) (hd : (ops[j]?).bind (·.dst) = some d) : d ∈ o.looksAt ops := by
  unfold Oper.looksAt
  refine List.mem_append_right _ ?_
  rw [hg]; simp only [hd]; simp
theorem guardAV_congr {ops : Array Oper} {o : Oper} {tm tm' : List AV} (h : ∀ t, t ∈ o.looksAt ops → tm[t]? = tm'[t]?) : guardAV ops.toList tm o = guardAV ops.toList tm' o := by
  unfold guardAV
  split
  · rfl
  · rename_i j want hg
    simp only [Array.getElem?_toList]
    cases hd : (ops[j]?).bind (·.dst) with
    | none => rfl
    | some d => simp only; rw [h d (guard_looksAt hg hd)]

theorem safeOp_congr {o : Oper} {d : Nat} {tm tm' : List AV} (h : ∀ t, .tmp t ∈ o.op.operands → tm.getD t .undef = tm'.getD t .undef) (hd : tm[d]? = tm'[d]?) : safeOp E tm o d = safeOp E tm' o d := by
  have O : ∀ x, x ∈ o.op.operands → opnd E tm x = opnd E tm' x := fun x hx => opnd_congr fun t ht => h t (ht ▸ hx)
  unfold safeOp
  rw [hd]
  split
  · split
    · rename_i c hop
      have : ∀ x, x ∈ c.args.toList → opnd E tm x = opnd E tm' x := fun x hx => O x (by rw [hop]; simp only [Op.operands, Call.operands]; exact Array.mem_append_right _ (by simpa using hx))
      exact all_congr fun x hx => by rw [this x hx]
    · exact all_congr fun x hx => by rw [O x (by simpa using hx)]
  · rfl
where
  all_congr {α : Type} {l : List α} {f g : α → Bool} (h : ∀ x ∈ l, f x = g x) : l.all f = l.all g := by
    induction l with
    | nil => rfl
    | cons a l ih => simp only [List.all_cons]; rw [h a (by simp), ih fun x hx => h x (by simp [hx])]

theorem all_congr {α : Type} {l : List α} {f g : α → Bool} (h : ∀ x ∈ l, f x = g x) : l.all f = l.all g := by
  induction l with
  | nil => rfl
  | cons a l ih => simp only [List.all_cons]; rw [h a (by simp), ih fun x hx => h x (by simp [hx])]

theorem evD_congr {callF : CallF} {ops : Array Oper} {conf : List Nat} {o : Oper} {tm tm' : List AV} {hp : Heap} (h : ∀ t, t ∈ o.looksAt ops → tm[t]? = tm'[t]?) (hc : ∀ d, d ∈ conf → tm[d]? = tm'[d]?) :
    evD E callF ops.toList conf o tm hp = evD E callF ops.toList conf o tm' hp := by
  have h' : ∀ t, .tmp t ∈ o.op.operands → tm.getD t .undef = tm'.getD t .undef := fun t ht => by rw [List.getD_eq_getElem?_getD, List.getD_eq_getElem?_getD, h t (mem_looksAt ht)]
  unfold evD
  rw [guardAV_congr h, evAny_congr h']
  have : conf.all (safeOp E tm o) = conf.all (safeOp E tm' o) := all_congr fun d hd => safeOp_congr h' (hc d hd)
  rw [this]

/-! What an operation does to own memory. -/
theorem evAny_silent {callF : CallF} {o : Oper} (hk : opKind E o = 0) {tm : List AV} {hp h : Heap} {r : AV} (he : evAny E callF tm hp o.op = some (r, h)) : h = hp ∧ ∀ hp', evAny E callF tm hp' o.op = some (r, hp') := by
  have M : ∀ {x : Option AV}, x.map (·, hp) = some (r, h) → h = hp ∧ ∀ hp' : Heap, x.map (·, hp') = some (r, hp') := by
    intro x hx
    cases x with
    | none => cases hx
    | some y => injection hx with hx; injection hx with h1 h2; subst h1; exact ⟨h2.symm, fun _ => rfl⟩
  obtain ⟨dst, op, ty, pos, after, guard⟩ := o
  cases op <;> simp only [opKind] at hk <;> try (first | (cases hk; done) | omega)
  case move x => simp only [evAny, evOp] at he ⊢; injection he with he; injection he with h1 h2; subst h1; exact ⟨h2.symm, fun _ => rfl⟩
  case assign x => simp only [evAny, evOp] at he ⊢; injection he with he; injection he with h1 h2; subst h1; exact ⟨h2.symm, fun _ => rfl⟩
  case pick c a b =>
    simp only [evAny, evOp] at he ⊢
    split at he <;> first | (cases he; done) | skip
    all_goals (injection he with he; injection he with h1 h2; subst h1; exact ⟨h2.symm, fun _ => rfl⟩)
  case load t a =>
    cases a <;> simp at hk
    rename_i g
    simp only [evAny, evOp] at he ⊢
    have key : ∀ hp', loadAV E hp' t (opnd E tm (.global g)) = loadAV E hp t (opnd E tm (.global g)) := by
      intro hp'
      simp only [opnd]
      cases E.gl g with
      | none => simp [loadAV]
      | some v => simp only [loadAV]; cases E.ti t <;> rfl
    obtain ⟨h1, h2⟩ := M he
    exact ⟨h1, fun hp' => by rw [key]; exact h2 hp'⟩
  case nilCheck x =>
    simp only [evAny, evOp] at he ⊢
    split at he <;> first | (cases he; done) | skip
    all_goals (injection he with he; injection he with h1 h2; subst h1; exact ⟨h2.symm, fun _ => rfl⟩)
  case binOp op t x y yt => simp only [evAny, evOp] at he ⊢; exact M he
  case unOp op t x => simp only [evAny, evOp] at he ⊢; exact M he
  case convert s d x => simp only [evAny, evOp] at he ⊢; exact M he
  case makeInterface t x =>
    simp only [evAny, evOp] at he ⊢
    split at he
    · rename_i ti ht
      split at he
      · cases he
      · injection he with he; injection he with h1 h2; subst h1; exact ⟨h2.symm, fun _ => rfl⟩
    · cases he
  case makeFunc fn first caps =>
    cases fn <;> simp only [evAny, evOp] at he ⊢ <;> try (cases he; done)
    split at he
    · rename_i hs
      injection he with he; injection he with h1 h2; subst h1
      exact ⟨h2.symm, fun _ => by rw [if_pos hs]⟩
    · cases he
  case fieldAddr t x f => simp only [evAny, evOp] at he ⊢; exact M he
  case field t x f => simp only [evAny, evOp] at he ⊢; exact M he
  case index t x i => simp only [evAny, evOp] at he ⊢; exact M he
  case extract x i =>
    simp only [evAny, evOp] at he ⊢
    split at he
    · exact M he
    · cases he
  case call c =>
    obtain ⟨callee, args, ts⟩ := c
    cases callee with
    | value f => cases f <;> simp at hk <;> (split at hk <;> simp at hk)
    | invoke => simp at hk
    | builtin b =>
      simp only [evAny, evOp] at he ⊢
      cases b <;> simp at hk
      all_goals
        simp only [builtinAV] at he ⊢
        split at he <;> first | (cases he; done) | skip
        all_goals (first | exact M he | (cases he; done) | (rename_i q _ _; cases q))

theorem map_hp {x : Option AV} {hp h : Heap} {r : AV} (hx : x.map (·, hp) = some (r, h)) : h = hp ∧ x = some r := by
  cases x with
  | none => cases hx
  | some y => injection hx with hx; injection hx with h1 h2; subst h1; exact ⟨h2.symm, rfl⟩

theorem evCall_reads {callF : CallF} {hp h : Heap} {f : FuncId} {args : List AV} {r : AV} (hm : E.mode f ≠ 1) (he : evCall E callF hp f args = some (r, h)) : h = hp := by
  unfold evCall at he
  split at he
  · split at he
    · split at he
      · split at he
        · injection he with he; injection he with h1 h2; exact h2.symm
        · cases he
      · cases he
    · cases he
  · rename_i h1; exact absurd h1 hm
  · split at he
    · split at he
      · split at he
        · injection he with he; injection he with h1 h2; exact h2.symm
        · cases he
      · cases he
    · cases he

theorem evAny_reads {callF : CallF} {o : Oper} (hk : opKind E o = 1) {tm : List AV} {hp h : Heap} {r : AV} (he : evAny E callF tm hp o.op = some (r, h)) : h = hp := by
  obtain ⟨dst, op, ty, pos, after, guard⟩ := o
  cases op <;> simp only [opKind] at hk <;> try (first | (cases hk; done) | omega)
  case load t a => simp only [evAny, evOp] at he; exact (map_hp he).1
  case indexAddr t x i => simp only [evAny, evOp] at he; exact (map_hp he).1
  case slice t x lo hi mx => simp only [evAny, evOp] at he; exact (map_hp he).1
  case call c =>
    obtain ⟨callee, args, ts⟩ := c
    cases callee with
    | value f =>
      cases f with
      | func g =>
        have hm : E.mode g ≠ 1 := by intro e; simp [e] at hk
        simp only [evAny, opnd] at he
        exact evCall_reads hm he
      | _ => simp at hk
    | invoke => simp at hk
    | builtin b => cases b <;> simp at hk

/-- Pure values are read alike in every own memory. -/
theorem resolve_any {hp hp' : Heap} : ∀ {d : Nat} {v : AV}, v.isPure = true → resolve hp d v = resolve hp' d v := by
  intro d
  induction d with
  | zero => intro v _; rfl
  | succ d ih =>
    intro v hv
    have allp : ∀ {cs : List AV}, AV.isPure.allPure cs = true → cs.all AV.isPure = true := by
      intro cs
      induction cs with
      | nil => intro _; rfl
      | cons c cs ihc =>
        intro h
        simp only [AV.isPure.allPure, Bool.and_eq_true] at h
        simp [h.1, ihc h.2]
    cases v with
    | agg cs => simp only [resolve, many, if_pos (allp (show AV.isPure.allPure cs = true by simpa [AV.isPure] using hv))]
    | tup cs => simp only [resolve, many, if_pos (allp (show AV.isPure.allPure cs = true by simpa [AV.isPure] using hv))]
    | fn f cs => simp only [resolve, many, if_pos (allp (show AV.isPure.allPure cs = true by simpa [AV.isPure] using hv))]
    | iface t v => simp only [resolve]; rw [ih (by simpa [AV.isPure] using hv)]
    | ms => simp [AV.isPure] at hv
    | mp => simp [AV.isPure] at hv
    | it => simp [AV.isPure] at hv
    | _ => rfl
theorem mapO_congr {α β : Type} {f g : α → Option β} : ∀ {l : List α}, (∀ x ∈ l, f x = g x) → mapO f l = mapO g l
  | [], _ => rfl
  | v :: l, h => by
    simp only [mapO]
    rw [h v (by simp), mapO_congr fun x hx => h x (by simp [hx])]
theorem mapO_any {hp hp' : Heap} {d : Nat} {l : List AV} (h : l.all AV.isPure = true) : mapO (resolve hp d) l = mapO (resolve hp' d) l :=
  mapO_congr fun x hx => resolve_any (by simp only [List.all_eq_true] at h; exact h x hx)
theorem evCall_any {callF : CallF} {hp hp' h : Heap} {f : FuncId} {args : List AV} {r : AV} (hm : E.mode f ≠ 1) (hp' : Heap) (ha : args.all AV.isPure = true) (he : evCall E callF hp f args = some (r, h)) : evCall E callF hp' f args = some (r, hp') := by
  unfold evCall at he ⊢
  rw [mapO_any (hp := hp) (hp' := hp') ha] at he
  split at he
  · split at he
    · rename_i args' hargs
      split at he
      · rename_i r' hr
        split at he
        · rename_i hc
          injection he with he; injection he with h1 h2; subst h1
          simp only [hargs, hr, if_pos hc]
        · cases he
      · cases he
    · cases he
  · rename_i h1; exact absurd h1 hm
  · split at he
    · rename_i args' hargs
      split at he
      · rename_i r' hr
        split at he
        · rename_i hc
          injection he with he; injection he with h1 h2; subst h1
          simp only [hargs, hr, if_pos hc]
        · cases he
      · cases he
    · cases he

/-- Two heaps that part in row b alone. -/
def PartAt (b : Nat) (hp hp' : Heap) : Prop := ∀ k, k ≠ b → hp[k]? = hp'[k]?
theorem loadAV_part {b : Nat} {hp hp' : Heap} (h : PartAt b hp hp') {t : TypeId} {a : AV} (ha : a.avoids b = true) : loadAV E hp t a = loadAV E hp' t a := by
  unfold loadAV
  split
  · rfl
  · rename_i ti b' g i o _
    have : b' ≠ b := by simpa [AV.avoids] using ha
    rw [h b' this]
  · rfl
theorem evAny_part {callF : CallF} {o : Oper} (hk : opKind E o = 1) {tm : List AV} {hp hp' h : Heap} {r : AV} {b : Nat} {d g i q : Nat} (hpt : PartAt b hp hp') (hd : tm[d]? = some (.mp b g i q)) (hs : safeOp E tm o d = true) (he : evAny E callF tm hp o.op = some (r, h)) :
    evAny E callF tm hp' o.op = some (r, hp') := by
  unfold safeOp at hs
  rw [hd] at hs
  simp only at hs
  obtain ⟨dst, op, ty, pos, after, guard⟩ := o
  cases op <;> simp only [opKind] at hk <;> try (first | (cases hk; done) | omega)
  case load t a =>
    simp only [Op.operands] at hs
    simp only [evAny, evOp] at he ⊢
    have ha : (opnd E tm a).avoids b = true := by simpa using hs
    rw [← loadAV_part hpt ha]
    obtain ⟨_, hx⟩ := map_hp he
    rw [hx]; rfl
  case indexAddr t x ix =>
    simp only [Op.operands] at hs
    simp only [evAny, evOp] at he ⊢
    have ha : (opnd E tm x).avoids b = true := by simp at hs; exact hs.1
    obtain ⟨_, hx⟩ := map_hp he
    have : indexAddrAV E hp' t (opnd E tm x) (opnd E tm ix) = indexAddrAV E hp t (opnd E tm x) (opnd E tm ix) := by
      unfold indexAddrAV
      split
      · split
        · rfl
        · rename_i e b' g' off len _ hms
          rw [hms] at ha
          have : b' ≠ b := by simpa [AV.avoids] using ha
          rw [hpt b' this]
        · rfl
      · rfl
    rw [this, hx]; rfl
  case slice t x lo hi mx =>
    simp only [Op.operands] at hs
    simp only [evAny, evOp] at he ⊢
    have ha : (opnd E tm x).avoids b = true := by simp at hs; exact hs.1
    obtain ⟨_, hx⟩ := map_hp he
    have : ∀ lo hi mx, sliceAV E hp' t (opnd E tm x) lo hi mx = sliceAV E hp t (opnd E tm x) lo hi mx := by
      intro lo hi mx
      unfold sliceAV
      split
      · split
        · rfl
        · split
          · split
            · rfl
            · rename_i b' g' off len hms
              rw [hms] at ha
              have : b' ≠ b := by simpa [AV.avoids] using ha
              unfold sliceMs
              rw [hpt b' this]
            · rfl
            · rfl
            · rfl
          · rfl
        · rfl
      · rfl
    rw [this, hx]; rfl
  case call c =>
    obtain ⟨callee, args, ts⟩ := c
    cases callee with
    | value f =>
      cases f with
      | func g =>
        have hm : E.mode g ≠ 1 := by intro e; simp [e] at hk
        simp only [evAny, opnd] at he ⊢
        refine evCall_any (hp := hp) (hp' := hp') (h := h) hm hp' ?_ he
        simp only [List.append_nil, List.all_map]
        exact hs
      | _ => simp at hk
    | invoke => simp at hk
    | builtin b => cases b <;> simp at hk

theorem store_part {callF : CallF} {o : Oper} {ds : List Nat} (hst : storesTo o ds = true) {tm : List AV} {hp h : Heap} {r : AV} (he : evAny E callF tm hp o.op = some (r, h)) :
    ∃ d b g i q, d ∈ ds ∧ d ∈ o.op.operands.toList.filterMap (fun | .tmp t => some t | _ => none) ∧ tm[d]? = some (.mp b g i q) ∧ PartAt b hp h := by
  unfold storesTo at hst
  split at hst
  · rename_i t d v hop
    rw [hop] at he ⊢
    simp only [evAny, evOp] at he
    cases hs : storeAV E hp t (opnd E tm (.tmp d)) (opnd E tm v) with
    | none => rw [hs] at he; cases he
    | some hp1 =>
      rw [hs] at he; injection he with he; injection he with h1 h2; subst h2
      unfold storeAV at hs
      split at hs
      · rename_i ti b g i q hti hmp
        split at hs
        · rename_i es sz wg com hb
          split at hs
          · split at hs
            · split at hs
              · injection hs with hs; subst hs
                refine ⟨d, b, g, i, q, by simpa using hst, by simp [Op.operands], ?_, fun k hk => by rw [List.getElem?_set_ne (fun e => hk e.symm)]⟩
                simp only [opnd, List.getD_eq_getElem?_getD] at hmp
                cases hd : tm[d]? with
                | none => rw [hd] at hmp; cases hmp
                | some x => rw [hd] at hmp; simp at hmp; rw [hmp]
              · cases hs
            · cases hs
          · cases hs
        · cases hs
      · cases hs
  · cases hst
end Go.EV
