/-
  Regions that draw their order: any order that the edges allow.
-/
import Derived.Test.YtkdjkbgcebodgaaDoorEvY
set_option linter.unusedSimpArgs false
set_option linter.unusedVariables false
namespace Go.EV
open Go.RowKit
variable {E : Env} {P : Program}

/-- What a region's static check says. -/
structure RegOk (E : Env) (ops : Array Oper) : Prop where
  edges : ∀ (j : Nat) (y : Oper), ops[j]? = some y → ∀ e ∈ anyEdges y, e < j
  dsts : ∀ (i j : Nat) (x y : Oper), ops[i]? = some x → ops[j]? = some y → i ≠ j → isAlloc x = true → x.dst ≠ y.dst
  pair : ∀ (i j : Nat) (x y : Oper), ops[i]? = some x → ops[j]? = some y → i < j → i ∉ (ancs ops.toList).getD j [] → pairOk E ops (ancs ops.toList) i j x y = true
  ahead : ∀ (i j : Nat) (x y : Oper), ops[i]? = some x → ops[j]? = some y → i ≠ j → isAlloc x = true → i ∉ (ancs ops.toList).getD j [] → Oper.apart ops x y = true
theorem lt_of_op {ops : Array Oper} {i : Nat} {x : Oper} (h : ops[i]? = some x) : i < ops.size := by
  rcases Nat.lt_or_ge i ops.size with h' | h'
  · exact h'
  · rw [Array.getElem?_eq_none h'] at h; cases h
theorem okRegion_ok {ops : Array Oper} (h : okRegion E ops = true) : RegOk E ops := by
  simp only [okRegion, List.all_eq_true, List.mem_range] at h
  have hj : ∀ (j : Nat) (y : Oper), ops[j]? = some y → (∀ e ∈ anyEdges y, e < j) ∧ ∀ (i : Nat) (x : Oper), ops[i]? = some x → (i = j ∨ isAlloc x = false ∨ x.dst ≠ y.dst) ∧
      (¬ i < j ∨ i ∈ (ancs ops.toList).getD j [] ∨ pairOk E ops (ancs ops.toList) i j x y = true) ∧ (i = j ∨ isAlloc x = false ∨ i ∈ (ancs ops.toList).getD j [] ∨ Oper.apart ops x y = true) := by
    intro j y hy
    have h1 := h j (lt_of_op hy)
    rw [hy] at h1
    simp only [Bool.and_eq_true, List.all_eq_true, decide_eq_true_eq, List.mem_range] at h1
    refine ⟨h1.1, fun i x hx => ?_⟩
    have h2 := h1.2 i (lt_of_op hx)
    rw [hx] at h2
    simp only [Bool.and_eq_true, Bool.or_eq_true, beq_iff_eq, Bool.not_eq_true', decide_eq_false_iff_not, List.contains_iff_mem, beq_eq_false_iff_ne, ne_eq] at h2
    obtain ⟨⟨k1, k2⟩, k3⟩ := h2
    refine ⟨?_, ?_, ?_⟩
    · rcases k1 with (k1 | k1) | k1
      · exact .inl k1
      · exact .inr (.inl k1)
      · exact .inr (.inr k1)
    · rcases k2 with (k2 | k2) | k2
      · exact .inl k2
      · exact .inr (.inl k2)
      · exact .inr (.inr k2)
    · rcases k3 with ((k3 | k3) | k3) | k3
      · exact .inl k3
      · exact .inr (.inl k3)
      · exact .inr (.inr (.inl k3))
      · exact .inr (.inr (.inr k3))
  refine ⟨fun j y hy => (hj j y hy).1, fun i j x y hx hy hne ha => ?_, fun i j x y hx hy hlt hn => ?_, fun i j x y hx hy hne ha hn => ?_⟩
  · rcases ((hj j y hy).2 i x hx).1 with h | h | h
    · exact absurd h hne
    · rw [ha] at h; cases h
    · exact h
  · rcases ((hj j y hy).2 i x hx).2.1 with h | h | h
    · exact absurd hlt h
    · exact absurd h hn
    · exact h
  · rcases ((hj j y hy).2 i x hx).2.2 with h | h | h | h
    · exact absurd h hne
    · rw [ha] at h; cases h
    · exact absurd h hn
    · exact h

theorem isAlloc_spec {o : Oper} (h : isAlloc o = true) : ∃ t d, o.op = .alloc t ∧ o.guard = none ∧ o.dst = some d := by
  unfold isAlloc at h
  split at h
  · rename_i t d h1 h2 h3; exact ⟨t, d, h1, h2, h3⟩
  · cases h

/-- A variable that waits. -/
structure Waits (E : Env) (G : Ghost) (n0 : Nat) (tm : List AV) (o : Oper) (b : Nat) : Prop where
  here : ∃ t d ti, o.op = .alloc t ∧ o.dst = some d ∧ E.ti t = some ti ∧ ti.zero.fits ti.size = true ∧ 0 < ti.size ∧ tm[d]? = some (.mp b 1 0 0) ∧ G.pend b = some (ti.zero, ti.size)
  new : n0 ≤ b

theorem hoist_ok {base : Nat} {Z : Zone} {w : World} : ∀ (l : List Oper) {G : Ghost} {st st1 : St} {D : Nat → Prop} {tmps : Array Value}, HRel base Z G st.hp w → TRel Z G w D st.tm tmps → hoist E l st = some st1 →
    (∀ (i j : Nat) (x y : Oper), l[i]? = some x → l[j]? = some y → i ≠ j → isAlloc x = true → x.dst ≠ y.dst) →
    ∃ G1, G.le G1 ∧ HRel base Z G1 st1.hp w ∧ TRel Z G1 w (fun d => D d ∨ ∃ (i : Nat) (o : Oper), l[i]? = some o ∧ isAlloc o = true ∧ o.dst = some d) st1.tm tmps ∧
      (∃ B : Nat → Nat, (∀ (i : Nat) (o : Oper), l[i]? = some o → isAlloc o = true → Waits E G1 st.hp.length st1.tm o (B i)) ∧
        ∀ (i j : Nat) (x y : Oper), l[i]? = some x → l[j]? = some y → isAlloc x = true → isAlloc y = true → B i = B j → i = j) ∧
      (∀ d, (∀ (i : Nat) (o : Oper), l[i]? = some o → isAlloc o = true → o.dst ≠ some d) → st1.tm[d]? = st.tm[d]?)
  | [], G, st, st1, D, tmps, H, T, h, _ => by
    simp only [hoist, Option.some.injEq] at h; subst h
    exact ⟨G, .refl G, H, ⟨T.len, fun i hi hd => T.rel i hi fun h => hd (.inl h)⟩, ⟨fun _ => 0, fun i o h => by simp at h, fun i j x y h => by simp at h⟩, fun _ _ => rfl⟩
  | o :: l, G, st, st1, D, tmps, H, T, h, hdst => by
    have hdst' : ∀ (i j : Nat) (x y : Oper), l[i]? = some x → l[j]? = some y → i ≠ j → isAlloc x = true → x.dst ≠ y.dst :=
      fun i j x y hx hy hne => hdst (i + 1) (j + 1) x y (by simpa using hx) (by simpa using hy) (by omega)
    unfold hoist at h
    split at h
    · rename_i ha
      split at h
      rotate_left
      · cases h
      rename_i t d hop hd
      split at h
      rotate_left
      · cases h
      rename_i ti hti
      split at h
      rotate_left
      · cases h
      rename_i hc
      obtain ⟨hf, hpos, hdl⟩ := hc
      obtain ⟨H2, hle⟩ := H.wait (z := ti.zero) hf
      have T2 : TRel Z (G.wait st.hp.length ti.zero ti.size) w (fun e => D e ∨ e = d) (st.tm.set d (.mp st.hp.length 1 0 0)) tmps := by
        refine ⟨by simpa using T.len, fun i hi hne => ?_⟩
        have : (st.tm.set d (.mp st.hp.length 1 0 0)).getD i .undef = st.tm.getD i .undef := by
          simp only [List.getD_eq_getElem?_getD]; rw [List.getElem?_set_ne (fun e => hne (.inr e.symm))]
        rw [this]
        exact (T.rel i (by simpa using hi) fun h => hne (.inl h)).mono (fun _ _ h => h) hle (fun _ _ _ => rfl)
      obtain ⟨G1, k1, k2, k3, ⟨B, k4, k5⟩, k6⟩ := hoist_ok l (st := ⟨st.tm.set d (.mp st.hp.length 1 0 0), st.hp ++ [.row [ti.zero] ti.size 0 0]⟩) H2 T2 h hdst'
      have hslot : st1.tm[d]? = some (.mp st.hp.length 1 0 0) := by
        rw [k6 d (fun i o' ho' ha' => by
          have := hdst 0 (i + 1) o o' rfl (by simpa using ho') (by omega) ha
          rw [hd] at this; exact fun e => this e.symm)]
        simp [hdl]
      have hpend : G1.pend st.hp.length = some (ti.zero, ti.size) := k1.pend _ _ (by simp [Ghost.wait])
      refine ⟨G1, hle.trans k1, k2, ⟨k3.len, fun i hi hne => k3.rel i hi fun h => ?_⟩, ⟨fun i => if i = 0 then st.hp.length else B (i - 1), fun i x hx hax => ?_, fun i j x y hx hy hax hay he => ?_⟩, fun e he => ?_⟩
      · rcases h with (h | h) | ⟨j, x, hx, hax, hxd⟩
        · exact hne (.inl h)
        · exact hne (.inr ⟨0, o, rfl, ha, by rw [h]; exact hd⟩)
        · exact hne (.inr ⟨j + 1, x, by simpa using hx, hax, hxd⟩)
      · cases i with
        | zero =>
          simp at hx; subst hx
          exact ⟨⟨t, d, ti, hop, hd, hti, hf, hpos, hslot, hpend⟩, Nat.le_refl _⟩
        | succ i =>
          have := k4 i x (by simpa using hx) hax
          simp only [Nat.add_one_ne_zero, if_false, Nat.add_sub_cancel]
          exact ⟨this.here, Nat.le_trans (by simp) this.new⟩
      · cases i with
        | zero =>
          cases j with
          | zero => rfl
          | succ j =>
            have := (k4 j y (by simpa using hy) hay).new
            simp at he this; omega
        | succ i =>
          cases j with
          | zero =>
            have := (k4 i x (by simpa using hx) hax).new
            simp at he this; omega
          | succ j =>
            simp only [Nat.add_one_ne_zero, if_false, Nat.add_sub_cancel] at he
            have := k5 i j x y (by simpa using hx) (by simpa using hy) hax hay he
            omega
      · have hne : d ≠ e := by
          have := he 0 o rfl ha
          rw [hd] at this; exact fun h => this (by rw [h])
        rw [k6 e (fun i o' ho' ha' => he (i + 1) o' (by simpa using ho') ha')]
        simp only
        rw [List.getElem?_set_ne hne]
    · rename_i ha
      obtain ⟨G1, k1, k2, k3, ⟨B, k4, k5⟩, k6⟩ := hoist_ok l H T h hdst'
      refine ⟨G1, k1, k2, ⟨k3.len, fun i hi hne => k3.rel i hi fun h => ?_⟩, ⟨fun i => B (i - 1), fun i x hx hax => ?_, fun i j x y hx hy hax hay he => ?_⟩, fun e he => k6 e fun i o' ho' ha' => he (i + 1) o' (by simpa using ho') ha'⟩
      · rcases h with h | ⟨j, x, hx, hax, hxd⟩
        · exact hne (.inl h)
        · exact hne (.inr ⟨j + 1, x, by simpa using hx, hax, hxd⟩)
      · cases i with
        | zero => simp at hx; subst hx; exact absurd hax ha
        | succ i => simpa using k4 i x (by simpa using hx) hax
      · cases i with
        | zero => simp at hx; subst hx; exact absurd hax ha
        | succ i =>
          cases j with
          | zero => simp at hy; subst hy; exact absurd hay ha
          | succ j =>
            have := k5 i j x y (by simpa using hx) (by simpa using hy) hax hay (by simpa using he)
            omega

def isListed (listed : Array Bool) (k : Nat) : Prop := listed.getD k false = true
theorem listed_set {listed : Array Bool} {i k : Nat} (hi : i < listed.size) : (listed.setIfInBounds i true).getD k false = if k = i then true else listed.getD k false := by
  by_cases e : k = i
  · subst e; simp [Array.getD, hi]
  · rw [if_neg e, Array.getD_eq_getD_getElem?, Array.getD_eq_getD_getElem?, Array.getElem?_setIfInBounds_ne (fun h => e h.symm)]

/-- What is still to come, in the text's order. -/
def left (ops : List Oper) (listed : Array Bool) : List Nat := (others ops).filter fun k => !listed.getD k false
def unlisted (n : Nat) (listed : Array Bool) : List Nat := (List.range n).filter fun k => !listed.getD k false
theorem unlisted_set {n : Nat} {listed : Array Bool} {i : Nat} (hi : i < n) (hs : listed.size = n) (hl : listed.getD i false = false) : (unlisted n (listed.setIfInBounds i true)).length < (unlisted n listed).length := by
  have : unlisted n (listed.setIfInBounds i true) = (unlisted n listed).filter fun k => decide (k ≠ i) := by
    unfold unlisted
    rw [List.filter_filter]
    apply List.filter_congr
    intro k _
    rw [listed_set (by omega)]
    by_cases e : k = i
    · subst e; simp
    · simp [e]
  rw [this]
  refine List.length_filter_lt_length_iff_exists.2 ⟨i, ?_, by simp⟩
  simp only [unlisted, List.mem_filter, List.mem_range]
  exact ⟨hi, by simp [hl]⟩

theorem ready_mem {ops : Array Oper} {listed : Array Bool} (hs : listed.size = ops.size) {i : Nat} : i ∈ Region.ready .any ops listed ↔ ∃ o, ops[i]? = some o ∧ listed.getD i false = false ∧ ∀ e ∈ anyEdges o, isListed listed e := by
  unfold Region.ready
  simp only [List.mem_filter, List.mem_range, Bool.and_eq_true, Bool.not_eq_true']
  constructor
  · rintro ⟨h1, h2, h3⟩
    have ho : ops[i]? = some ops[i] := by simp [h1]
    refine ⟨ops[i], ho, ?_, fun e he => ?_⟩
    · have : i < listed.size := by omega
      simp [Array.getD, this] at h2 ⊢; exact h2
    · rw [ho] at h3
      simp only [Option.map_some, Option.getD_some] at h3
      simp only [anyEdges, List.mem_map, List.mem_filter] at he
      obtain ⟨ed, ⟨hed, hb⟩, rfl⟩ := he
      rw [Array.all_eq_true'] at h3
      have := h3 ed (by simpa using hed)
      simp only [hb, Bool.not_true, Bool.false_or] at this
      exact this
  · rintro ⟨o, ho, h2, h3⟩
    have h1 := lt_of_op ho
    refine ⟨h1, ?_, ?_⟩
    · have : i < listed.size := by omega
      simp [Array.getD, this] at h2 ⊢; exact h2
    · rw [ho]
      simp only [Option.map_some, Option.getD_some, Array.all_eq_true']
      intro ed hed
      cases hb : Region.binds .any ed with
      | false => rfl
      | true =>
        have := h3 ed.on (by simp only [anyEdges, List.mem_map, List.mem_filter]; exact ⟨ed, ⟨by simpa using hed, hb⟩, rfl⟩)
        simpa [isListed] using this

/-- If nothing is ready, all has come. -/
theorem all_listed {E : Env} {ops : Array Oper} (R : RegOk E ops) {listed : Array Bool} (hs : listed.size = ops.size) (h : Region.ready .any ops listed = []) : ∀ k, k < ops.size → isListed listed k := by
  intro k
  induction k using Nat.strongRecOn with
  | _ k ih =>
    intro hk
    cases hl : listed.getD k false with
    | true => exact hl
    | false =>
      exfalso
      have ho : ops[k]? = some ops[k] := by simp [hk]
      have : k ∈ Region.ready .any ops listed := (ready_mem hs).2 ⟨ops[k], ho, hl, fun e he => ih e (R.edges k _ ho e he) (by have := R.edges k _ ho e he; omega)⟩
      rw [h] at this; cases this

theorem left_mem {ops : Array Oper} {listed : Array Bool} {k : Nat} (h : k ∈ left ops.toList listed) : ∃ o, ops[k]? = some o ∧ isAlloc o = false ∧ listed.getD k false = false := by
  simp only [left, others, List.mem_filter, List.mem_range, Bool.not_eq_true'] at h
  obtain ⟨⟨h1, h2⟩, h3⟩ := h
  have hk : k < ops.size := by simpa using h1
  have ho : ops[k]? = some ops[k] := by simp [hk]
  refine ⟨ops[k], ho, ?_, h3⟩
  rw [show ops.toList[k]? = some ops[k] by simp [hk]] at h2
  simpa using h2
theorem mem_left {ops : Array Oper} {listed : Array Bool} {k : Nat} {o : Oper} (ho : ops[k]? = some o) (ha : isAlloc o = false) (hl : listed.getD k false = false) : k ∈ left ops.toList listed := by
  simp only [left, others, List.mem_filter, List.mem_range, Bool.not_eq_true']
  refine ⟨⟨by simpa using lt_of_op ho, ?_⟩, hl⟩
  rw [show ops.toList[k]? = some o by simpa using ho]; simp [ha]
theorem left_sorted (ops : List Oper) (listed : Array Bool) : (left ops listed).Pairwise (· < ·) := by
  unfold left others
  exact (List.pairwise_lt_range.filter _).filter _
theorem left_set_alloc {ops : Array Oper} {listed : Array Bool} {i : Nat} {o : Oper} (ho : ops[i]? = some o) (ha : isAlloc o = true) (hs : listed.size = ops.size) : left ops.toList (listed.setIfInBounds i true) = left ops.toList listed := by
  unfold left
  apply List.filter_congr
  intro k hk
  simp only [others, List.mem_filter, List.mem_range] at hk
  have : k ≠ i := by
    intro e; subst e
    rw [show ops.toList[k]? = some o by simpa using ho] at hk
    simp [ha] at hk
  rw [listed_set (by have := lt_of_op ho; omega), if_neg this]
theorem left_set_other {ops : Array Oper} {listed : Array Bool} {i : Nat} (hi : i < listed.size) {R1 R2 : List Nat} (h : left ops.toList listed = R1 ++ i :: R2) : left ops.toList (listed.setIfInBounds i true) = R1 ++ R2 := by
  have hsort := left_sorted ops.toList listed
  have : left ops.toList (listed.setIfInBounds i true) = (left ops.toList listed).filter fun k => decide (k ≠ i) := by
    unfold left
    rw [List.filter_filter]
    apply List.filter_congr
    intro k _
    rw [listed_set hi]
    by_cases e : k = i
    · subst e; simp
    · simp [e]
  rw [this, h]
  rw [h] at hsort
  have hp := List.pairwise_append.1 hsort
  have h1 : ∀ k ∈ R1, k ≠ i := fun k hk => Nat.ne_of_lt (hp.2.2 k hk i List.mem_cons_self)
  have h2 : ∀ k ∈ R2, k ≠ i := fun k hk => (Nat.ne_of_lt ((List.pairwise_cons.1 hp.2.1).1 k hk)).symm
  rw [List.filter_append, List.filter_cons]
  simp only [ne_eq, not_true_eq_false, decide_false, Bool.false_eq_true, if_false]
  rw [List.filter_eq_self.2 (fun k hk => by simpa using h1 k hk), List.filter_eq_self.2 (fun k hk => by simpa using h2 k hk)]

theorem mem_conf {ops : Array Oper} {k d : Nat} (h : d ∈ confSlots ops.toList (ancs ops.toList) k) : ∃ (m : Nat) (o : Oper), ops[m]? = some o ∧ isAlloc o = true ∧ o.dst = some d ∧ m ∉ (ancs ops.toList).getD k [] := by
  simp only [confSlots, List.mem_filterMap, List.mem_range] at h
  obtain ⟨m, hm, hd⟩ := h
  have hm' : m < ops.size := by simpa using hm
  rw [show ops.toList[m]? = some ops[m] by simp [hm']] at hd
  simp only at hd
  split at hd
  · rename_i hc
    simp only [Bool.and_eq_true, Bool.not_eq_true'] at hc
    exact ⟨m, ops[m], by simp [hm'], hc.1, hd, by have := hc.2; simpa [List.contains_iff_mem] using this⟩
  · cases hd

theorem sim {w0 : World} (hE : EnvOk E P w0) {callF : CallF} (hC : CallOk P w0 callF) {base : Nat} {ops : Array Oper} (R : RegOk E ops) {Q : Exit → Act → World → Prop} {st' : St} {Z0 : Zone} {G0 : Ghost} {wS : World} {n0 : Nat}
    (hG0 : ∀ b z, G0.pend b = some z → b < n0) (hQ : ∀ a' w', Lands base Z0 G0 wS st' a' w' → Q .normal a' w') (B : Nat → Nat)
    (hB : ∀ (i j : Nat) (x y : Oper), ops[i]? = some x → ops[j]? = some y → isAlloc x = true → isAlloc y = true → B i = B j → i = j) :
    ∀ (fuel : Nat) (listed : Array Bool) (st : St) (a : Act) (w : World) (Z : Zone) (G : Ghost), listed.size = ops.size → (unlisted ops.size listed).length ≤ fuel →
      (∀ (k : Nat) (o : Oper), ops[k]? = some o → isListed listed k → ∀ e ∈ anyEdges o, isListed listed e) → Sit w0 base Z w → Ext base Z0 G0 wS Z G w → HRel base Z G st.hp w →
      TRel Z G w (fun d => ∃ (m : Nat) (o : Oper), ops[m]? = some o ∧ isAlloc o = true ∧ listed.getD m false = false ∧ o.dst = some d) st.tm a.tmps → a.defers = [] →
      (∀ (i : Nat) (o : Oper), ops[i]? = some o → isAlloc o = true → listed.getD i false = false → Waits E G n0 st.tm o (B i)) →
      evListD E callF ops.toList (ancs ops.toList) (left ops.toList listed) st = some st' → wpAny P .any ops Q fuel listed a w := by
  have fin : ∀ (listed : Array Bool) (st : St) (a : Act) (w : World) (Z : Zone) (G : Ghost), (∀ k, k < ops.size → isListed listed k) → Ext base Z0 G0 wS Z G w → HRel base Z G st.hp w →
      TRel Z G w (fun d => ∃ (m : Nat) (o : Oper), ops[m]? = some o ∧ isAlloc o = true ∧ listed.getD m false = false ∧ o.dst = some d) st.tm a.tmps → a.defers = [] →
      evListD E callF ops.toList (ancs ops.toList) (left ops.toList listed) st = some st' → Q .normal a w := by
    intro listed st a w Z G hall EX H T hd he
    have hnil : left ops.toList listed = [] := by
      cases hl : left ops.toList listed with
      | nil => rfl
      | cons k l =>
        obtain ⟨o, ho, _, hk⟩ := left_mem (ops := ops) (listed := listed) (k := k) (by rw [hl]; simp)
        have := hall k (lt_of_op ho)
        rw [isListed, hk] at this; cases this
    rw [hnil] at he
    simp only [evListD, Option.some.injEq] at he
    subst he
    exact hQ a w ⟨hd, Z, G, EX, H, ⟨T.len, fun i hi _ => T.rel i hi fun ⟨m, o, ho, _, hm, _⟩ => by
      have := hall m (lt_of_op ho)
      rw [isListed, hm] at this; cases this⟩⟩
  intro fuel
  induction fuel with
  | zero =>
    intro listed st a w Z G hs hcount hcl S EX H T hd hW he
    have hall : ∀ k, k < ops.size → isListed listed k := by
      intro k hk
      cases hl : listed.getD k false with
      | true => exact hl
      | false =>
        have : k ∈ unlisted ops.size listed := by simp only [unlisted, List.mem_filter, List.mem_range]; exact ⟨hk, by simp [hl]⟩
        rw [List.length_eq_zero_iff.1 (Nat.le_zero.1 hcount)] at this; cases this
    refine ⟨?_, fin listed st a w Z G hall EX H T hd he⟩
    cases hr : Region.ready .any ops listed with
    | nil => rfl
    | cons k l =>
      obtain ⟨o, ho, hk, _⟩ := (ready_mem hs).1 (show k ∈ Region.ready .any ops listed by rw [hr]; simp)
      have := hall k (lt_of_op ho)
      rw [isListed, hk] at this; cases this
  | succ fuel ih =>
    intro listed st a w Z G hs hcount hcl S EX H T hd hW he
    refine ⟨fun hr => fin listed st a w Z G (all_listed R hs hr) EX H T hd he, fun i hi => ?_⟩
    obtain ⟨o, ho, hil, hedges⟩ := (ready_mem hs).1 hi
    have hin := lt_of_op ho
    have hs' : (listed.setIfInBounds i true).size = ops.size := by simpa using hs
    have hcount' : (unlisted ops.size (listed.setIfInBounds i true)).length ≤ fuel := by
      have := unlisted_set hin hs hil; omega
    have hcl' : ∀ (k : Nat) (o : Oper), ops[k]? = some o → isListed (listed.setIfInBounds i true) k → ∀ e ∈ anyEdges o, isListed (listed.setIfInBounds i true) e := by
      intro k ok hk hkl e hek
      simp only [isListed, listed_set (show i < listed.size by omega)] at hkl ⊢
      split at hkl
      · rename_i e1; subst e1
        rw [ho] at hk; injection hk with hk; subst hk
        split
        · rfl
        · exact hedges e hek
      · split
        · rfl
        · exact hcl k ok hk hkl e hek
    have hanc : ∀ k, k ∈ (ancs ops.toList).getD i [] → isListed listed k :=
      fun k hk => ancs_closed (L := isListed listed) ops.toList (fun k ok hk => hcl k ok (by simpa using hk)) i o (by simpa using ho) hedges k hk
    unfold wpOp
    rw [ho]
    simp only
    by_cases ha : isAlloc o = true
    · -- a variable
      obtain ⟨t, d, hop, hg, hdst⟩ := isAlloc_spec ha
      have hw := hW i o ho ha hil
      obtain ⟨⟨t', d', ti, hop', hdst', hti, hf, hpos, hslot, hpend⟩, hnew⟩ := hw
      rw [hop] at hop'; injection hop' with hop'; subst hop'
      rw [hdst] at hdst'; injection hdst' with hdst'; subst hdst'
      have hwant : Region.wanted o (yielded ops a.tmps) = true := by unfold Region.wanted; rw [hg]
      rw [if_pos hwant]
      left
      have hTi := hE.ti _ _ hti
      obtain ⟨inf, hinf, _, _, z, hz, hzr⟩ := hTi.info
      obtain ⟨H', hG', hrel, hptr⟩ := H.mat (v := z) hpend hzr hf hpos t
      have hrun : (execOp a.eval o).run P w = .ok (.value (.pointer (some ⟨w.heap.size, 0, none⟩))) (w.alloc (.cells z.cells t)) := by
        unfold execOp
        rw [hop]
        simp only [Instr.alloc, zeroValue, typeInfo, Sem.run_bind, run_program, Result.andThen_ok, hinf, hz, Sem.run_pure, newVar, newRow, run_newObj]
        rfl
      unfold Oper.wp
      rw [hrun, Oper.upon_value]
      have hpn : G0.pend (B i) = none := by
        cases h : G0.pend (B i) with
        | none => rfl
        | some z' => have := hG0 _ _ h; omega
      have hle := hG' G0 EX.gle hpn
      have EXa := Ext.alloc H (.cells z.cells t)
      have EX' : Ext base Z0 G0 wS Z (G.mat (B i) w.heap.size ti.size) (w.alloc (.cells z.cells t)) :=
        ⟨EX.zsub, hle, EX.below.trans EXa.below, fun c j h => (EXa.keep c j (EX.zsub c j h)).trans (EX.keep c j h), EX.znew⟩
      refine ih (listed.setIfInBounds i true) st _ _ Z _ hs' hcount' hcl' (S.ext EXa) EX' H' ?_ (by rw [put_defers]; exact hd) ?_ (by rw [left_set_alloc ho ha hs]; exact he)
      · -- slots
        have hdl : d < st.tm.length := by
          rcases Nat.lt_or_ge d st.tm.length with h | h
          · exact h
          · rw [List.getElem?_eq_none h] at hslot; cases hslot
        rw [hdst]
        refine ⟨by simp only [Act.put, Array.size_setIfInBounds]; exact T.len, fun s hsl hns => ?_⟩
        by_cases e : s = d
        · subst e
          have h1 : st.tm.getD s .undef = .mp (B i) 1 0 0 := by simp [List.getD_eq_getElem?_getD, hslot]
          have h2 : (a.put (some s) (.pointer (some ⟨w.heap.size, 0, none⟩))).tmps.getD s Go.undef = .pointer (some ⟨w.heap.size, 0, none⟩) := by
            have : s < a.tmps.size := by rw [← T.len]; exact hdl
            simp [Act.put, Array.getD, this]
          rw [h1, h2]; exact hptr
        · have h2 : (a.put (some d) (.pointer (some ⟨w.heap.size, 0, none⟩))).tmps.getD s Go.undef = a.tmps.getD s Go.undef := by
            simp only [Act.put]
            rw [Array.getD_eq_getD_getElem?, Array.getD_eq_getD_getElem?, Array.getElem?_setIfInBounds_ne (fun h => e h.symm)]
          rw [h2]
          refine hrel _ _ (T.rel s hsl fun ⟨m, om, hom, ham, hml, hmd⟩ => hns ⟨m, om, hom, ham, ?_, hmd⟩)
          rw [listed_set (by omega), if_neg]
          · exact hml
          · intro em; subst em
            rw [ho] at hom; injection hom with hom; subst hom
            rw [hdst] at hmd; injection hmd with hmd; exact e hmd.symm
      · -- the other variables
        intro m om hom ham hml
        rw [listed_set (by omega)] at hml
        split at hml
        · cases hml
        · rename_i hne
          obtain ⟨⟨t2, d2, ti2, k1, k2, k3, k4, k5, k6, k7⟩, k8⟩ := hW m om hom ham hml
          refine ⟨⟨t2, d2, ti2, k1, k2, k3, k4, k5, k6, ?_⟩, k8⟩
          have : B m ≠ B i := fun e => hne (hB m i om o hom ho ham ha e)
          simp only [Ghost.mat]
          rw [if_neg this]; exact k7
    · -- another operation
      have ha' : isAlloc o = false := by simpa using ha
      have himem := mem_left (ops := ops) ho ha' hil
      obtain ⟨R1, R2, hsplit⟩ := List.append_of_mem himem
      rw [hsplit] at he
      have hsort := left_sorted ops.toList listed
      rw [hsplit] at hsort
      have hlt : ∀ k ∈ R1, k < i := fun k hk => (List.pairwise_append.1 hsort).2.2 k hk i List.mem_cons_self
      have hconf : ∀ (k : Nat) (y : Oper), ops[k]? = some y → ∀ (j : Nat) (x : Oper), ops[j]? = some x → isAlloc x = false → ∀ d, d ∈ confSlots ops.toList (ancs ops.toList) k → x.dst ≠ some d := by
        intro k y hy j x hx hxa d hdm
        obtain ⟨m, om, hom, ham, hmd, _⟩ := mem_conf hdm
        have hne : m ≠ j := by intro e; subst e; rw [hx] at hom; injection hom with hom; subst hom; rw [hxa] at ham; cases ham
        have := R.dsts m j om x hom hx hne ham
        rw [hmd] at this; exact fun e => this e.symm
      obtain ⟨st1, hst1, he'⟩ := bubble (fun k hk st s1 s2 A Bs => by
        obtain ⟨ok, hok, hoka, hkl⟩ := left_mem (ops := ops) (listed := listed) (k := k) (by rw [hsplit]; exact List.mem_append_left _ hk)
        have hna : k ∉ (ancs ops.toList).getD i [] := by
          intro h
          have := hanc k h
          rw [isListed, hkl] at this; cases this
        have hp := R.pair k i ok o hok ho (hlt k hk) hna
        simp only [pairOk, Bool.and_eq_true, hoka, ha', Bool.false_or] at hp
        exact step_comm hok ho hp.1 hp.2 (fun d hd => ⟨hconf k ok hok k ok hok hoka d hd, hconf k ok hok i o ho ha' d hd⟩) (fun d hd => ⟨hconf i o ho k ok hok hoka d hd, hconf i o ho i o ho ha' d hd⟩) A Bs) he
      have hD : ∀ d, (∃ (m : Nat) (om : Oper), ops[m]? = some om ∧ isAlloc om = true ∧ listed.getD m false = false ∧ om.dst = some d) → d ∉ o.looksAt ops ∧ o.dst ≠ some d := by
        rintro d ⟨m, om, hom, ham, hml, hmd⟩
        have hne : m ≠ i := by intro e; subst e; rw [ho] at hom; injection hom with hom; subst hom; rw [ha'] at ham; cases ham
        have hna : m ∉ (ancs ops.toList).getD i [] := by
          intro h
          have := hanc m h
          rw [isListed, hml] at this; cases this
        obtain ⟨c1, c2, _⟩ := Oper.apart_spec (R.ahead m i om o hom ho hne ham hna)
        exact ⟨c1 d hmd, c2 d hmd⟩
      have hsl' : left ops.toList (listed.setIfInBounds i true) = R1 ++ R2 := left_set_other (by omega) hsplit
      have step : ∀ (v : AV) (hp : Heap) (x : Value) (Z' : Zone) (G' : Ghost) (w' : World), st1 = ⟨putAV st.tm o.dst v, hp⟩ → Ext base Z G w Z' G' w' → HRel base Z' G' hp w' → Rel Z' G' w' v x → wpAny P .any ops Q fuel (listed.setIfInBounds i true) (a.put o.dst x) w' := by
        intro v hp x Z' G' w' hst EX1 H1 hr
        subst hst
        have hDeq : ∀ d, (∃ (m : Nat) (om : Oper), ops[m]? = some om ∧ isAlloc om = true ∧ listed.getD m false = false ∧ om.dst = some d) → ∃ (m : Nat) (om : Oper), ops[m]? = some om ∧ isAlloc om = true ∧ (listed.setIfInBounds i true).getD m false = false ∧ om.dst = some d := by
          rintro d ⟨m, om, hom, ham, hml, hmd⟩
          have hne : m ≠ i := by intro e; subst e; rw [ho] at hom; injection hom with hom; subst hom; rw [ha'] at ham; cases ham
          exact ⟨m, om, hom, ham, by rw [listed_set (by omega), if_neg hne]; exact hml, hmd⟩
        refine ih (listed.setIfInBounds i true) _ _ _ Z' G' hs' hcount' hcl' (S.ext EX1) (EX.trans EX1) H1 ?_ (by rw [put_defers]; exact hd) ?_ (by rw [hsl']; exact he')
        · have T1 := put_rel (T.ext EX1) o.dst hr
          exact ⟨T1.len, fun s hsl hns => T1.rel s hsl fun h => hns (hDeq s h)⟩
        · intro m om hom ham hml
          rw [listed_set (by omega)] at hml
          split at hml
          · cases hml
          · obtain ⟨⟨t2, d2, ti2, k1, k2, k3, k4, k5, k6, k7⟩, k8⟩ := hW m om hom ham hml
            refine ⟨⟨t2, d2, ti2, k1, k2, k3, k4, k5, ?_, EX1.gle.pend _ _ k7⟩, k8⟩
            simp only
            rw [putAV_get (hD d2 ⟨m, om, hom, ham, hml, k2⟩).2]; exact k6
      unfold stepD at hst1
      rw [show ops.toList[i]? = some o by simpa using ho] at hst1
      simp only at hst1
      split at hst1
      rotate_left
      · cases hst1
      rename_i v hp hev
      injection hst1 with hst1
      unfold evD at hev
      split at hev
      · rename_i hgd
        have hwant := guard_ok T (fun j want d hg hd' hbad => (hD d hbad).1 (guard_looksAt hg hd')) hgd
        rw [if_pos hwant]
        left
        have hany : evAny E callF st.tm st.hp o.op = some (v, hp) := by
          split at hev
          · split at hev
            · exact hev
            · cases hev
          · exact hev
        refine evAny_wp hE hC S H T (fun t ht hbad => (hD t hbad).1 (mem_looksAt ht)) hany _ _ fun x w' hpost => ?_
        obtain ⟨Z', G', EX1, H1, hr⟩ := hpost
        exact step v hp x Z' G' w' hst1.symm EX1 H1 hr
      · rename_i hgd
        have hwant := guard_ok T (fun j want d hg hd' hbad => (hD d hbad).1 (guard_looksAt hg hd')) hgd
        rw [if_neg (by rw [hwant]; exact Bool.false_ne_true)]
        injection hev with hev; injection hev with h1 h2; subst h1; subst h2
        exact step _ _ Go.undef Z G w hst1.symm (.refl _ _ _ _) H (.pure (.tup [] #[] rfl (fun i hi => by simp at hi)))
      · cases hev

theorem evRegion_wp {w0 : World} (hE : EnvOk E P w0) {callF : CallF} (hC : CallOk P w0 callF) {base : Nat} {ops : Array Oper} {draw : Bool} {id : Nat} {Q : Exit → Act → World → Prop} {st st' : St} {Z : Zone} {G : Ghost} {a : Act} {w : World} (S : Sit w0 base Z w) (H : HRel base Z G st.hp w)
    (T : TRel Z G w (fun _ => False) st.tm a.tmps) (hd : a.defers = []) (h : evRegion E callF ops draw st = some st') (hQ : ∀ a' w', Lands base Z G w st' a' w' → Q .normal a' w') : (Code.region id ops draw).wp P Q a w := by
  unfold evRegion at h
  cases draw with
  | false =>
    refine wp_region ?_
    have := evOps_wp (ops := ops) hE hC ops.toList 0 st st' Z G a w (by simp) S H T hd (by simpa using h) hQ
    rw [List.range_eq_range']
    simpa using this
  | true =>
    simp only [if_true] at h
    split at h
    rotate_left
    · cases h
    rename_i hok
    have R := okRegion_ok hok
    split at h
    rotate_left
    · cases h
    rename_i st1 hh
    refine wp_region_any hE.mix ?_
    have hdst : ∀ (i j : Nat) (x y : Oper), ops.toList[i]? = some x → ops.toList[j]? = some y → i ≠ j → isAlloc x = true → x.dst ≠ y.dst := fun i j x y hx hy => R.dsts i j x y (by simpa using hx) (by simpa using hy)
    have Hd := H.drew
    have Td : TRel Z G w.drew (fun _ => False) st.tm a.tmps := T.ext (Ext.drew base Z G w)
    obtain ⟨G1, k1, k2, k3, ⟨B, k4, k5⟩, _⟩ := hoist_ok ops.toList Hd Td hh hdst
    have hlist : ∀ k, (Array.replicate ops.size false).getD k false = false := by intro k; simp [Array.getD]
    refine sim hE hC R (Z0 := Z) (G0 := G) (wS := w) (n0 := st.hp.length) (fun b z hz => lt_of_get (H.pend b z.1 z.2 hz).1) hQ B (fun i j x y hx hy => k5 i j x y (by simpa using hx) (by simpa using hy)) ops.size (Array.replicate ops.size false) st1 a w.drew Z G1 (by simp) ?_ (fun k o ho hk => ?_) (S.ext (Ext.drew base Z G w))
      ⟨fun _ _ h => h, k1, (Ext.drew base Z G w).below, fun _ _ _ => rfl, fun _ _ h => .inl h⟩ k2 ?_ hd (fun i o ho ha _ => k4 i o (by simpa using ho) ha) ?_
    · exact Nat.le_trans (List.length_filter_le _ _) (by simp)
    · rw [isListed, hlist] at hk; cases hk
    · refine ⟨k3.len, fun s hs hns => k3.rel s hs fun h => ?_⟩
      rcases h with h | ⟨m, o, ho, ha, hmd⟩
      · exact h
      · exact hns ⟨m, o, by simpa using ho, ha, hlist m, hmd⟩
    · have : left ops.toList (Array.replicate ops.size false) = others ops.toList := by
        unfold left
        rw [List.filter_eq_self]
        intro k _
        rw [hlist]; rfl
      rw [this]; exact h
end Go.EV
