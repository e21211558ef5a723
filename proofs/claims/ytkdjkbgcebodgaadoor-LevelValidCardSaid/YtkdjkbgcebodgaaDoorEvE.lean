/-
  Regions that draw their order: any order that the edges allow.
-/
import Derived.Test.YtkdjkbgcebodgaaDoorEvY
set_option linter.unusedSimpArgs false
set_option linter.unusedVariables false
namespace Go.EV
open Go.RowKit
variable {E : Env} {P : Program}

/-- What a region's static check says. -/
structure RegOk (E : Env) (ops : Array Oper) : Prop where
  edges : ∀ (j : Nat) (y : Oper), ops[j]? = some y → ∀ e ∈ anyEdges y, e < j
  dsts : ∀ (i j : Nat) (x y : Oper), ops[i]? = some x → ops[j]? = some y → i ≠ j → isAlloc x = true → x.dst ≠ y.dst
  pair : ∀ (i j : Nat) (x y : Oper), ops[i]? = some x → ops[j]? = some y → i < j → i ∉ (ancs ops.toList).getD j [] → pairOk E ops (ancs ops.toList) i j x y = true
  ahead : ∀ (i j : Nat) (x y : Oper), ops[i]? = some x → ops[j]? = some y → i ≠ j → isAlloc x = true → i ∉ (ancs ops.toList).getD j [] → Oper.apart ops x y = true
theorem lt_of_op {ops : Array Oper} {i : Nat} {x : Oper} (h : ops[i]? = some x) : i < ops.size := by
  rcases Nat.lt_or_ge i ops.size with h' | h'
  · exact h'
  · rw [Array.getElem?_eq_none h'] at h; cases h
theorem okRegion_ok {ops : Array Oper} (h : okRegion E ops = true) : RegOk E ops := by
  simp only [okRegion, List.all_eq_true, List.mem_range] at h
  have hj : ∀ (j : Nat) (y : Oper), ops[j]? = some y → (∀ e ∈ anyEdges y, e < j) ∧ ∀ (i : Nat) (x : Oper), ops[i]? = some x → (i = j ∨ isAlloc x = false ∨ x.dst ≠ y.dst) ∧
      (¬ i < j ∨ i ∈ (ancs ops.toList).getD j [] ∨ pairOk E ops (ancs ops.toList) i j x y = true) ∧ (i = j ∨ isAlloc x = false ∨ i ∈ (ancs ops.toList).getD j [] ∨ Oper.apart ops x y = true) := by
    intro j y hy
    have h1 := h j (lt_of_op hy)
    rw [hy] at h1
    simp only [Bool.and_eq_true, List.all_eq_true, decide_eq_true_eq, List.mem_range] at h1
    refine ⟨h1.1, fun i x hx => ?_⟩
    have h2 := h1.2 i (lt_of_op hx)
    rw [hx] at h2
    simp only [Bool.and_eq_true, Bool.or_eq_true, beq_iff_eq, Bool.not_eq_true', decide_eq_false_iff_not, List.contains_iff_mem, beq_eq_false_iff_ne, ne_eq] at h2
    obtain ⟨⟨k1, k2⟩, k3⟩ := h2
    refine ⟨?_, ?_, ?_⟩
    · rcases k1 with (k1 | k1) | k1
      · exact .inl k1
      · exact .inr (.inl k1)
      · exact .inr (.inr k1)
    · rcases k2 with (k2 | k2) | k2
      · exact .inl k2
      · exact .inr (.inl k2)
      · exact .inr (.inr k2)
    · rcases k3 with ((k3 | k3) | k3) | k3
      · exact .inl k3
      · exact .inr (.inl k3)
      · exact .inr (.inr (.inl k3))
      · exact .inr (.inr (.inr k3))
  refine ⟨fun j y hy => (hj j y hy).1, fun i j x y hx hy hne ha => ?_, fun i j x y hx hy hlt hn => ?_, fun i j x y hx hy hne ha hn => ?_⟩
  · rcases ((hj j y hy).2 i x hx).1 with h | h | h
    · exact absurd h hne
    · rw [ha] at h; cases h
    · exact h
  · rcases ((hj j y hy).2 i x hx).2.1 with h | h | h
    · exact absurd hlt h
    · exact absurd h hn
    · exact h
  · rcases ((hj j y hy).2 i x hx).2.2 with h | h | h | h
    · exact absurd h hne
    · rw [ha] at h; cases h
    · exact absurd h hn
    · exact h

theorem isAlloc_spec {o : Oper} (h : isAlloc o = true) : ∃ t d, o.op = .alloc t ∧ o.guard = none ∧ o.dst = some d := by
  unfold isAlloc at h
  split at h
  · rename_i t d h1 h2 h3; exact ⟨t, d, h1, h2, h3⟩
  · cases h

/-- A variable that waits. -/
structure Waits (E : Env) (G : Ghost) (n0 : Nat) (tm : List AV) (o : Oper) (b : Nat) : Prop where
  here : ∃ t d ti, o.op = .alloc t ∧ o.dst = some d ∧ E.ti t = some ti ∧ ti.zero.fits ti.size = true ∧ 0 < ti.size ∧ tm[d]? = some (.mp b 1 0 0) ∧ G.pend b = some (ti.zero, ti.size)
  new : n0 ≤ b

theorem hoist_ok {base : Nat} {Z : Zone} {w : World} : ∀ (l : List Oper) {G : Ghost} {st st1 : St} {D : Nat → Prop} {tmps : Array Value}, HRel base Z G st.hp w → TRel Z G w D st.tm tmps → hoist E l st = some st1 →
    (∀ (i j : Nat) (x y : Oper), l[i]? = some x → l[j]? = some y → i ≠ j → isAlloc x = true → x.dst ≠ y.dst) →
    ∃ G1, G.le G1 ∧ HRel base Z G1 st1.hp w ∧ TRel Z G1 w (fun d => D d ∨ ∃ (i : Nat) (o : Oper), l[i]? = some o ∧ isAlloc o = true ∧ o.dst = some d) st1.tm tmps ∧
      (∃ B : Nat → Nat, (∀ (i : Nat) (o : Oper), l[i]? = some o → isAlloc o = true → Waits E G1 st.hp.length st1.tm o (B i)) ∧
        ∀ (i j : Nat) (x y : Oper), l[i]? = some x → l[j]? = some y → isAlloc x = true → isAlloc y = true → B i = B j → i = j) ∧
      (∀ d, (∀ (i : Nat) (o : Oper), l[i]? = some o → isAlloc o = true → o.dst ≠ some d) → st1.tm[d]? = st.tm[d]?)
  | [], G, st, st1, D, tmps, H, T, h, _ => by
    simp only [hoist, Option.some.injEq] at h; subst h
    exact ⟨G, .refl G, H, ⟨T.len, fun i hi hd => T.rel i hi fun h => hd (.inl h)⟩, ⟨fun _ => 0, fun i o h => by simp at h, fun i j x y h => by simp at h⟩, fun _ _ => rfl⟩
  | o :: l, G, st, st1, D, tmps, H, T, h, hdst => by
    have hdst' : ∀ (i j : Nat) (x y : Oper), l[i]? = some x → l[j]? = some y → i ≠ j → isAlloc x = true → x.dst ≠ y.dst :=
      fun i j x y hx hy hne => hdst (i + 1) (j + 1) x y (by simpa using hx) (by simpa using hy) (by omega)
    unfold hoist at h
    split at h
    · rename_i ha
      split at h
      rotate_left
      · cases h
      rename_i t d hop hd
      split at h
      rotate_left
      · cases h
      rename_i ti hti
      split at h
      rotate_left
      · cases h
      rename_i hc
      obtain ⟨hf, hpos, hdl⟩ := hc
      obtain ⟨H2, hle⟩ := H.wait (z := ti.zero) hf
      have T2 : TRel Z (G.wait st.hp.length ti.zero ti.size) w (fun e => D e ∨ e = d) (st.tm.set d (.mp st.hp.length 1 0 0)) tmps := by
        refine ⟨by simpa using T.len, fun i hi hne => ?_⟩
        have : (st.tm.set d (.mp st.hp.length 1 0 0)).getD i .undef = st.tm.getD i .undef := by
          simp only [List.getD_eq_getElem?_getD]; rw [List.getElem?_set_ne (fun e => hne (.inr e.symm))]
        rw [this]
        exact (T.rel i (by simpa using hi) fun h => hne (.inl h)).mono (fun _ _ h => h) hle (fun _ _ _ => rfl)
      obtain ⟨G1, k1, k2, k3, ⟨B, k4, k5⟩, k6⟩ := hoist_ok l (st := ⟨st.tm.set d (.mp st.hp.length 1 0 0), st.hp ++ [.row [ti.zero] ti.size 0 0]⟩) H2 T2 h hdst'
      have hslot : st1.tm[d]? = some (.mp st.hp.length 1 0 0) := by
        rw [k6 d (fun i o' ho' ha' => by
          have := hdst 0 (i + 1) o o' rfl (by simpa using ho') (by omega) ha
          rw [hd] at this; exact fun e => this e.symm)]
        simp [hdl]
      have hpend : G1.pend st.hp.length = some (ti.zero, ti.size) := k1.pend _ _ (by simp [Ghost.wait])
      refine ⟨G1, hle.trans k1, k2, ⟨k3.len, fun i hi hne => k3.rel i hi fun h => ?_⟩, ⟨fun i => if i = 0 then st.hp.length else B (i - 1), fun i x hx hax => ?_, fun i j x y hx hy hax hay he => ?_⟩, fun e he => ?_⟩
      · rcases h with (h | h) | ⟨j, x, hx, hax, hxd⟩
        · exact hne (.inl h)
        · exact hne (.inr ⟨0, o, rfl, ha, by rw [h]; exact hd⟩)
        · exact hne (.inr ⟨j + 1, x, by simpa using hx, hax, hxd⟩)
      · cases i with
        | zero =>
          simp at hx; subst hx
          exact ⟨⟨t, d, ti, hop, hd, hti, hf, hpos, hslot, hpend⟩, Nat.le_refl _⟩
        | succ i =>
          have := k4 i x (by simpa using hx) hax
          simp only [Nat.add_one_ne_zero, if_false, Nat.add_sub_cancel]
          exact ⟨this.here, Nat.le_trans (by simp) this.new⟩
      · cases i with
        | zero =>
          cases j with
          | zero => rfl
          | succ j =>
            have := (k4 j y (by simpa using hy) hay).new
            simp at he this; omega
        | succ i =>
          cases j with
          | zero =>
            have := (k4 i x (by simpa using hx) hax).new
            simp at he this; omega
          | succ j =>
            simp only [Nat.add_one_ne_zero, if_false, Nat.add_sub_cancel] at he
            have := k5 i j x y (by simpa using hx) (by simpa using hy) hax hay he
            omega
      · have hne : d ≠ e := by
          have := he 0 o rfl ha
          rw [hd] at this; exact fun h => this (by rw [h])
        rw [k6 e (fun i o' ho' ha' => he (i + 1) o' (by simpa using ho') ha')]
        simp only
        rw [List.getElem?_set_ne hne]
    · rename_i ha
      obtain ⟨G1, k1, k2, k3, ⟨B, k4, k5⟩, k6⟩ := hoist_ok l H T h hdst'
      refine ⟨G1, k1, k2, ⟨k3.len, fun i hi hne => k3.rel i hi fun h => ?_⟩, ⟨fun i => B (i - 1), fun i x hx hax => ?_, fun i j x y hx hy hax hay he => ?_⟩, fun e he => k6 e fun i o' ho' ha' => he (i + 1) o' (by simpa using ho') ha'⟩
      · rcases h with h | ⟨j, x, hx, hax, hxd⟩
        · exact hne (.inl h)
        · exact hne (.inr ⟨j + 1, x, by simpa using hx, hax, hxd⟩)
      · cases i with
        | zero => simp at hx; subst hx; exact absurd hax ha
        | succ i => simpa using k4 i x (by simpa using hx) hax
      · cases i with
        | zero => simp at hx; subst hx; exact absurd hax ha
        | succ i =>
          cases j with
          | zero => simp at hy; subst hy; exact absurd hay ha
          | succ j =>
            have := k5 i j x y (by simpa using hx) (by simpa using hy) hax hay (by simpa using he)
            omega

def isListed (listed : Array Bool) (k : Nat) : Prop := listed.getD k false = true
theorem listed_set {listed : Array Bool} {i k : Nat} (hi : i < listed.size) : (listed.setIfInBounds i true).getD k false = if k = i then true else listed.getD k false := by
  by_cases e : k = i
  · subst e; simp [Array.getD, hi]
  · rw [if_neg e, Array.getD_eq_getD_getElem?, Array.getD_eq_getD_getElem?, Array.getElem?_setIfInBounds_ne (fun h => e h.symm)]

/-- What is still to come, in the text's order. -/
def left (ops : List Oper) (listed : Array Bool) : List Nat := (others ops).filter fun k => !listed.getD k false
def unlisted (n : Nat) (listed : Array Bool) : List Nat := (List.range n).filter fun k => !listed.getD k false
theorem unlisted_set {n : Nat} {listed : Array Bool} {i : Nat} (hi : i < n) (hs : listed.size = n) (hl : listed.getD i false = false) : (unlisted n (listed.setIfInBounds i true)).length < (unlisted n listed).length := by
  have : unlisted n (listed.setIfInBounds i true) = (unlisted n listed).filter fun k => decide (k ≠ i) := by
    unfold unlisted
    rw [List.filter_filter]
    apply List.filter_congr
    intro k _
    rw [listed_set (by omega)]
    by_cases e : k = i
    · subst e; simp
    · simp [e]
  rw [this]
  refine List.length_filter_lt_length_iff_exists.2 ⟨i, ?_, by simp⟩
  simp only [unlisted, List.mem_filter, List.mem_range]
  exact ⟨hi, by simp [hl]⟩

theorem ready_mem {ops : Array Oper} {listed : Array Bool} (hs : listed.size = ops.size) {i : Nat} : i ∈ Region.ready .any ops listed ↔ ∃ o, ops[i]? = some o ∧ listed.getD i false = false ∧ ∀ e ∈ anyEdges o, isListed listed e := by
  unfold Region.ready
  simp only [List.mem_filter, List.mem_range, Bool.and_eq_true, Bool.not_eq_true']
  constructor
  · rintro ⟨h1, h2, h3⟩
    have ho : ops[i]? = some ops[i] := by simp [h1]
    refine ⟨ops[i], ho, ?_, fun e he => ?_⟩
    · have : i < listed.size := by omega
      simp [Array.getD, this] at h2 ⊢; exact h2
    · rw [ho] at h3
      simp only [Option.map_some, Option.getD_some] at h3
      simp only [anyEdges, List.mem_map, List.mem_filter] at he
      obtain ⟨ed, ⟨hed, hb⟩, rfl⟩ := he
      rw [Array.all_eq_true'] at h3
      have := h3 ed (by simpa using hed)
      simp only [hb, Bool.not_true, Bool.false_or] at this
      exact this
  · rintro ⟨o, ho, h2, h3⟩
    have h1 := lt_of_op ho
    refine ⟨h1, ?_, ?_⟩
    · have : i < listed.size := by omega
      simp [Array.getD, this] at h2 ⊢; exact h2
    · rw [ho]
      simp only [Option.map_some, Option.getD_some, Array.all_eq_true']
      intro ed hed
      cases hb : Region.binds .any ed with
      | false => rfl
      | true =>
        have := h3 ed.on (by simp only [anyEdges, List.mem_map, List.mem_filter]; exact ⟨ed, ⟨by simpa using hed, hb⟩, rfl⟩)
        simpa [isListed] using this

/-- If nothing is ready, all has come. -/
theorem all_listed {E : Env} {ops : Array Oper} (R : RegOk E ops) {listed : Array Bool} (hs : listed.size = ops.size) (h : Region.ready .any ops listed = []) : ∀ k, k < ops.size → isListed listed k := by
  intro k
  induction k using Nat.strongRecOn with
  | _ k ih =>
    intro hk
    cases hl : listed.getD k false with
    | true => exact hl
    | false =>
      exfalso
      have ho : ops[k]? = some ops[k] := by simp [hk]
      have : k ∈ Region.ready .any ops listed := (ready_mem hs).2 ⟨ops[k], ho, hl, fun e he => ih e (R.edges k _ ho e he) (by have := R.edges k _ ho e he; omega)⟩
      rw [h] at this; cases this

theorem left_mem {ops : Array Oper} {listed : Array Bool} {k : Nat} (h : k ∈ left ops.toList listed) : ∃ o, ops[k]? = some o ∧ isAlloc o = false ∧ listed.getD k false = false := by
  simp only [left, others, List.mem_filter, List.mem_range, Bool.not_eq_true'] at h
  obtain ⟨⟨h1, h2⟩, h3⟩ := h
  have hk : k < ops.size := by simpa using h1
  have ho : ops[k]? = some ops[k] := by simp [hk]
  refine ⟨ops[k], ho, ?_, h3⟩
  rw [show ops.toList[k]? = some ops[k] by simp [hk]] at h2
  simpa using h2
theorem mem_left {ops : Array Oper} {listed : Array Bool} {k : Nat} {o : Oper} (ho : ops[k]? = some o) (ha : isAlloc o = false) (hl : listed.getD k false = false) : k ∈ left ops.toList listed := by
  simp only [left, others, List.mem_filter, List.mem_range, Bool.not_eq_true']
  refine ⟨⟨by simpa using lt_of_op ho, ?_⟩, hl⟩
  rw [show ops.toList[k]? = some o by simpa using ho]; simp [ha]
theorem left_sorted (ops : List Oper) (listed : Array Bool) : (left ops listed).Pairwise (· < ·) := by
  unfold left others
  exact (List.pairwise_lt_range.filter _).filter _
theorem left_set_alloc {ops : Array Oper} {listed : Array Bool} {i : Nat} {o : Oper} (ho : ops[i]? = some o) (ha : isAlloc o = true) (hs : listed.size = ops.size) : left ops.toList (listed.setIfInBounds i true) = left ops.toList listed := by
  unfold left
  apply List.filter_congr
  intro k hk
  simp only [others, List.mem_filter, List.mem_range] at hk
  have : k ≠ i := by
    intro e; subst e
    rw [show ops.toList[k]? = some o by simpa using ho] at hk
    simp [ha] at hk
  rw [listed_set (by have := lt_of_op ho; omega), if_neg this]
theorem left_set_other {ops : Array Oper} {listed : Array Bool} {i : Nat} (hi : i < listed.size) {R1 R2 : List Nat} (h : left ops.toList listed = R1 ++ i :: R2) : left ops.toList (listed.setIfInBounds i true) = R1 ++ R2 := by
  have hsort := left_sorted ops.toList listed
  have : left ops.toList (listed.setIfInBounds i true) = (left ops.toList listed).filter fun k => decide (k ≠ i) := by
    unfold left
    rw [List.filter_filter]
    apply List.filter_congr
    intro k _
    rw [listed_set hi]
    by_cases e : k = i
    · subst e; simp
    · simp [e]
  rw [this, h]
  rw [h] at hsort
  have hp := List.pairwise_append.1 hsort
  have h1 : ∀ k ∈ R1, k ≠ i := fun k hk => Nat.ne_of_lt (hp.2.2 k hk i List.mem_cons_self)
  have h2 : ∀ k ∈ R2, k ≠ i := fun k hk => (Nat.ne_of_lt ((List.pairwise_cons.1 hp.2.1).1 k hk)).symm
  rw [List.filter_append, List.filter_cons]
  simp only [ne_eq, not_true_eq_false, decide_false, Bool.false_eq_true, if_false]
  rw [List.filter_eq_self.2 (fun k hk => by simpa using h1 k hk), List.filter_eq_self.2 (fun k hk => by simpa using h2 k hk)]

theorem mem_conf {ops : Array Oper} {k d : Nat} (h : d ∈ confSlots ops.toList (ancs ops.toList) k) : ∃ (m : Nat) (o : Oper), ops[m]? = some o ∧ isAlloc o = true ∧ o.dst = some d ∧ m ∉ (ancs ops.toList).getD k [] := by
  simp only [confSlots, List.mem_filterMap, List.mem_range] at h
  obtain ⟨m, hm, hd⟩ := h
  have hm' : m < ops.size := by simpa using hm
  rw [show ops.toList[m]? = some ops[m] by simp [hm']] at hd
  simp only at hd
  split at hd
  · rename_i hc
    simp only [Bool.and_eq_true, Bool.not_eq_true'] at hc
    exact ⟨m, ops[m], by simp [hm'], hc.1, hd, by have := hc.2; simpa [List.contains_iff_mem] using this⟩
  · cases hd

theorem sim {w0 : World} (hE : EnvOk E P w0) {callF : CallF} (hC : CallOk P w0 callF) {base : Nat} {ops : Array Oper} (R : RegOk E ops) {Q : Exit → Act → World → Prop} {st' : St} {Z0 : Zone} {G0 : Ghost} {wS : World} {n0 : Nat}
    (hG0 : ∀ b z, G0.pend b = some z → b < n0) (hQ : ∀ a' w', Lands base Z0 G0 wS st' a' w' → Q .normal a' w') (B : Nat → Nat)
    (hB : ∀ (i j : Nat) (x y : Oper), ops[i]? = some x → ops[j]? = some y → isAlloc x = true → isAlloc y = true → B i = B j → i = j) :
    ∀ (fuel : Nat) (listed : Array Bool) (st : St) (a : Act) (w : World) (Z : Zone) (G : Ghost), listed.size = ops.size → (unlisted ops.size listed).length ≤ fuel →
      (∀ (k : Nat) (o : Oper), ops[k]? = some o → isListed listed k → ∀ e ∈ anyEdges o, isListed listed e) → Sit w0 base Z w → Ext base Z0 G0 wS Z G w → HRel base Z G st.hp w →
      TRel Z G w (fun d => ∃ (m : Nat) (o : Oper), ops[m]? = some o ∧ isAlloc o = true ∧ listed.getD m false = false ∧ o.dst = some d) st.tm a.tmps → a.defers = [] →
      (∀ (i : Nat) (o : Oper), ops[i]? = some o → isAlloc o = true → listed.getD i false = false → Waits E G n0 st.tm o (B i)) →
      evListD E callF ops.toList (ancs ops.toList) (left ops.toList listed) st = some st' → wpAny P .any ops Q fuel listed a w := by
  have fin : ∀ (listed : Array Bool) (st : St) (a : Act) (w : World) (Z : Zone) (G : Ghost), (∀ k, k < ops.size → isListed listed k) → Ext base Z0 G0 wS Z G w → HRel base Z G st.hp w →
      TRel Z G w (fun d => ∃ (m : Nat) (o : Oper), ops[m]? = some o ∧ isAlloc o = true ∧ listed.getD m false = false ∧ o.dst = some d) st.tm a.tmps → a.defers = [] →
      evListD E callF ops.toList (ancs ops.toList) (left ops.toList listed) st = some st' → Q .normal a w := by
    intro listed st a w Z G hall EX H T hd he
    have hnil : left ops.toList listed = [] := by
      cases hl : left ops.toList listed with
      | nil => rfl
      | cons k l =>
        obtain ⟨o, ho, _, hk⟩ := left_mem (ops := ops) (listed := listed) (k := k) (by rw [hl]; simp)
        have := hall k (lt_of_op ho)
        rw [isListed, hk] at this; cases this
    rw [hnil] at he
    simp only [evListD, Option.some.injEq] at he
    subst he
    exact hQ a w ⟨hd, Z, G, EX, H, ⟨T.len, fun i hi _ => T.rel i hi fun ⟨m, o, ho, _, hm, _⟩ => by
      have := hall m (lt_of_op ho)
      rw [isListed, hm] at this; cases this⟩⟩
  intro fuel
  induction fuel with
  | zero =>
    intro listed st a w Z G hs hcount hcl S EX H T hd hW he
    have hall : ∀ k, k < ops.size → isListed listed k := by
      intro k hk
      cases hl : listed.getD k false with
      | true => exact hl
      | false =>
        have : k ∈ unlisted ops.size listed := by simp only [unlisted, List.mem_filter, List.mem_range]; exact ⟨hk, by simp [hl]⟩
        rw [List.length_eq_zero_iff.1 (Nat.le_zero.1 hcount)] at this; cases this
    refine ⟨?_, fin listed st a w Z G hall EX H T hd he⟩
    cases hr : Region.ready .any ops listed with
    | nil => rfl
    | cons k l =>
      obtain ⟨o, ho, hk, _⟩ := (ready_mem hs).1 (show k ∈ Region.ready .any ops listed by rw [hr]; simp)
      have := hall k (lt_of_op ho)
      rw [isListed, hk] at this; cases this
  | succ fuel ih =>
    intro listed st a w Z G hs hcount hcl S EX H T hd hW he
    refine ⟨fun hr => fin listed st a w Z G (all_listed R hs hr) EX H T hd he, fun i hi => ?_⟩
    obtain ⟨o, ho, hil, hedges⟩ := (ready_mem hs).1 hi
    have hin := lt_of_op ho
    have hs' : (listed.setIfInBounds i true).size = ops.size := by simpa using hs
    have hcount' : (unlisted ops.size (listed.setIfInBounds i true)).length ≤ fuel := by
      have := unlisted_set hin hs hil; omega
    have hcl' : ∀ (k : Nat) (o : Oper), ops[k]? = some o → isListed (listed.setIfInBounds i true) k → ∀ e ∈ anyEdges o, isListed (listed.setIfInBounds i true) e := by
      intro k ok hk hkl e hek
      simp only [isListed, listed_set (show i < listed.size by omega)] at hkl ⊢
      split at hkl
      · rename_i e1; subst e1
        rw [ho] at hk; injection hk with hk; subst hk
        split
        · rfl
        · exact hedges e hek
      · split
        · rfl
        · exact hcl k ok hk hkl e hek
    have hanc : ∀ k, k ∈ (ancs ops.toList).getD i [] → isListed listed k :=
      fun k hk => ancs_closed (L := isListed listed) ops.toList (fun k ok hk => hcl k ok (by simpa using hk)) i o (by simpa using ho) hedges k hk
    unfold wpOp
    rw [ho]
    simp only
    by_cases ha : isAlloc o = true
    · -- a variable
      obtain ⟨t, d, hop, hg, hdst⟩ := isAlloc_spec ha
      have hw := hW i o ho ha hil
      obtain ⟨⟨t', d', ti, hop', hdst', hti, hf, hpos, hslot, hpend⟩, hnew⟩ := hw
      rw [hop] at hop'; injection hop' with hop'; subst hop'
      rw [hdst] at hdst'; injection hdst' with hdst'; subst hdst'
      have hwant : Region.wanted o (yielded ops a.tmps) = true := by unfold Region.wanted; rw [hg]
      rw [if_pos hwant]
      left
      have hTi := hE.ti _ _ hti
      obtain ⟨inf, hinf, _, _, z, hz, hzr⟩ := hTi.info
      obtain ⟨H', hG', hrel, hptr⟩ := H.mat (v := z) hpend hzr hf hpos t
      have hrun : (execOp a.eval o).run P w = .ok (.value (.pointer (some ⟨w.heap.size, 0, none⟩))) (w.alloc (.cells z.cells t)) := by
        unfold execOp
        rw [hop]
        simp only [Instr.alloc, zeroValue, typeInfo, Sem.run_bind, run_program, Result.andThen_ok, hinf, hz, Sem.run_pure, newVar, newRow, run_newObj]
        rfl
      unfold Oper.wp
      rw [hrun, Oper.upon_value]
      have hpn : G0.pend (B i) = none := by
        cases h : G0.pend (B i) with
        | none => rfl
        | some z' => have := hG0 _ _ h; omega
      have hle := hG' G0 EX.gle hpn
      have EXa := Ext.alloc H (.cells z.cells t)
      have EX' : Ext base Z0 G0 wS Z (G.mat (B i) w.heap.size ti.size) (w.alloc (.cells z.cells t)) :=
        ⟨EX.zsub, hle, EX.below.trans EXa.below, fun c j h => (EXa.keep c j (EX.zsub c j h)).trans (EX.keep c j h), EX.znew⟩
      refine ih (listed.setIfInBounds i true) st _ _ Z _ hs' hcount' hcl' (S.ext EXa) EX' H' ?_ (by rw [put_defers]; exact hd) ?_ (by rw [left_set_alloc ho ha hs]; exact he)
      · -- slots
        have hdl : d < st.tm.length := by
          rcases Nat.lt_or_ge d st.tm.length with h | h
          · exact h
          · rw [List.getElem?_eq_none h] at hslot; cases hslot
        rw [hdst]
        refine ⟨by simp only [Act.put, Array.size_setIfInBounds]; exact T.len, fun s hsl hns => ?_⟩
        by_cases e : s = d
        · subst e
          have h1 : st.tm.getD s .undef = .mp (B i) 1 0 0 := by simp [List.getD_eq_getElem?_getD, hslot]
          have h2 : (a.put (some s) (.pointer (some ⟨w.heap.size, 0, none⟩))).tmps.getD s Go.undef = .pointer (some ⟨w.heap.size, 0, none⟩) := by
            have : s < a.tmps.size := by rw [← T.len]; exact hdl
            simp [Act.put, Array.getD, this]
          rw [h1, h2]; exact hptr
        · have h2 : (a.put (some d) (.pointer (some ⟨w.heap.size, 0, none⟩))).tmps.getD s Go.undef = a.tmps.getD s Go.undef := by
            simp only [Act.put]
            rw [Array.getD_eq_getD_getElem?, Array.getD_eq_getD_getElem?, Array.getElem?_setIfInBounds_ne (fun h => e h.symm)]
          rw [h2]
          refine hrel _ _ (T.rel s hsl fun ⟨m, om, hom, ham, hml, hmd⟩ => hns ⟨m, om, hom, ham, ?_, hmd⟩)
          rw [listed_set (by omega), if_neg]
          · exact hml
          · intro em; subst em
            rw [ho] at hom; injection hom with hom; subst hom
            rw [hdst] at hmd; injection hmd with hmd; exact e hmd.symm
      · -- the other variables
        intro m om hom ham hml
        rw [listed_set (by omega)] at hml
        split at hml
        · cases hml
        · rename_i hne
          obtain ⟨⟨t2, d2, ti2, k1, k2, k3, k4, k5, k6, k7⟩, k8⟩ := hW m om hom ham hml
          refine ⟨⟨t2, d2, ti2, k1, k2, k3, k4, k5, k6, ?_⟩, k8⟩
          have : B m ≠ B i := fun e => hne (hB m i om o hom ho ham ha e)
          simp only [Ghost.mat]
          rw [if_neg this]; exact k7
    · -- another operation
      have ha' : isAlloc o = false := by simpa using ha
      have himem := mem_left (ops := ops) ho ha' hil
      obtain ⟨R1, R2, hsplit⟩ := List.append_of_mem himem
      rw [hsplit] at he
      have hsort := left_sorted ops.toList listed
      rw [hsplit] at hsort
      have hlt : ∀ k ∈ R1, k < i := fun k hk => (List.pairwise_append.1 hsort).2.2 k hk i List.mem_cons_self
      have hconf : ∀ (k : Nat) (y : Oper), ops[k]? = some y → ∀ (j : Nat) (x : Oper), ops[j]? = some x → isAlloc x = false → ∀ d, d ∈ confSlots ops.toList (ancs ops.toList) k → x.dst ≠ some d := by
        intro k y hy j x hx hxa d hdm
        obtain ⟨m, om, hom, ham, hmd, _⟩ := mem_conf hdm
        have hne : m ≠ j := by intro e; subst e; rw [hx] at hom; injection hom with hom; subst hom; rw [hxa] at ham; cases ham
        have := R.dsts m j om x hom hx hne ham
        rw [hmd] at this; exact fun e => this e.symm
      obtain ⟨st1, hst1, he'⟩ := bubble (fun k hk st s1 s2 A Bs => by
        obtain ⟨ok, hok, hoka, hkl⟩ := left_mem (ops := ops) (listed := listed) (k := k) (by rw [hsplit]; exact List.mem_append_left _ hk)
        have hna : k ∉ (ancs ops.toList).getD i [] := by
          intro h
          have := hanc k h
          rw [isListed, hkl] at this; cases this
        have hp := R.pair k i ok o hok ho (hlt k hk) hna
        simp only [pairOk, Bool.and_eq_true, hoka, ha', Bool.false_or] at hp
        exact step_comm hok ho hp.1 hp.2 (fun d hd => ⟨hconf k ok hok k ok hok hoka d hd, hconf k ok hok i o ho ha' d hd⟩) (fun d hd => ⟨hconf i o ho k ok hok hoka d hd, hconf i o ho i o ho ha' d hd⟩) A Bs) he
      have hD : ∀ d, (∃ (m : Nat) (om : Oper), ops[m]? = some om ∧ isAlloc om = true ∧ listed.getD m false = false ∧ om.dst = some d) → d ∉ o.looksAt ops ∧ o.dst ≠ some d := by
        rintro d ⟨m, om, hom, ham, hml, hmd⟩
        have hne : m ≠ i := by intro e; subst e; rw [ho] at hom; injection hom with hom; subst hom; rw [ha'] at ham; cases ham
        have hna : m ∉ (ancs ops.toList).getD i [] := by
          intro h
          have := hanc m h
          rw [isListed, hml] at this; cases this
        obtain ⟨c1, c2, _⟩ := Oper.apart_spec (R.ahead m i om o hom ho hne ham hna)
        exact ⟨c1 d hmd, c2 d hmd⟩
      have hsl' : left ops.toList (listed.setIfInBounds i true) = R1 ++ R2 := left_set_other (by omega) hsplit
      have step : ∀ (v : AV) (hp : Heap) (x : Value) (Z' : Zone) (G' : Ghost) (w' : World), st1 = ⟨putAV st.tm o.dst v, hp⟩ → Ext base Z G w Z' G' w' → HRel base Z' G' hp w' → Rel Z' G' w' v x → wpAny P .any ops Q fuel (listed.setIfInBounds i true) (a.put o.dst x) w' := by
        intro v hp x Z' G' w' hst EX1 H1 hr
        subst hst
        have hDeq : ∀ d, (∃ (m : Nat) (om : Oper), ops[m]? = some om ∧ isAlloc om = true ∧ listed.getD m false = false ∧ om.dst = some d) → ∃ (m : Nat) (om : Oper), ops[m]? = some om ∧ isAlloc om = true ∧ (listed.setIfInBounds i true).getD m false = false ∧ om.dst = some d := by
          rintro d ⟨m, om, hom, ham, hml, hmd⟩
          have hne : m ≠ i := by intro e; subst e; rw [ho] at hom; injection hom with hom; subst hom; rw [ha'] at ham; cases ham
          exact ⟨m, om, hom, ham, by rw [listed_set (by omega), if_neg hne]; exact hml, hmd⟩
        refine ih (listed.setIfInBounds i true) _ _ _ Z' G' hs' hcount' hcl' (S.ext EX1) (EX.trans EX1) H1 ?_ (by rw [put_defers]; exact hd) ?_ (by rw [hsl']; exact he')
        · have T1 := put_rel (T.ext EX1) o.dst hr
          exact ⟨T1.len, fun s hsl hns => T1.rel s hsl fun h => hns (hDeq s h)⟩
        · intro m om hom ham hml
          rw [listed_set (by omega)] at hml
          split at hml
          · cases hml
          · obtain ⟨⟨t2, d2, ti2, k1, k2, k3, k4, k5, k6, k7⟩, k8⟩ := hW m om hom ham hml
            refine ⟨⟨t2, d2, ti2, k1, k2, k3, k4, k5, ?_, EX1.gle.pend _ _ k7⟩, k8⟩
            simp only
            rw [putAV_get (hD d2 ⟨m, om, hom, ham, hml, k2⟩).2]; exact k6
      unfold stepD at hst1
      rw [show ops.toList[i]? = some o by simpa using ho] at hst1
      simp only at hst1
      split at hst1
      rotate_left
      · cases hst1
      rename_i v hp hev
      injection hst1 with hst1
      unfold evD at hev
      split at hev
      · rename_i hgd
        have hwant := guard_ok T (fun j want d hg hd' hbad => (hD d hbad).1 (guard_looksAt hg hd')) hgd
        rw [if_pos hwant]
        left
        have hany : evAny E callF st.tm st.hp o.op = some (v, hp) := by
          split at hev
          · split at hev
            · exact hev
            · cases hev
          · exact hev
        refine evAny_wp hE hC S H T (fun t ht hbad => (hD t hbad).1 (mem_looksAt ht)) hany _ _ fun x w' hpost => ?_
        obtain ⟨Z', G', EX1, H1, hr⟩ := hpost
        exact step v hp x Z' G' w' hst1.symm EX1 H1 hr
      · rename_i hgd
        have hwant := guard_ok T (fun j want d hg hd' hbad => (hD d hbad).1 (guard_looksAt hg hd')) hgd
        rw [if_neg (by rw [hwant]; exact Bool.false_ne_true)]
        injection hev with hev; injection hev with h1 h2; subst h1; subst h2
        exact step _ _ Go.undef Z G w hst1.symm (.refl _ _ _ _) H (.pure (.tup [] #[] rfl (fun i hi => by simp at hi)))
      · cases hev

theorem evRegion_wp {w0 : World} (hE : EnvOk E P w0) {callF : CallF} (hC : CallOk P w0 callF) {base : Nat} {ops : Array Oper} {draw : Bool} {id : Nat} {Q : Exit → Act → World → Prop} {st st' : St} {Z : Zone} {G : Ghost} {a : Act} {w : World} (S : Sit w0 base Z w) (H : HRel base Z G st.hp w)
    (T : TRel Z G w (fun _ => False) st.tm a.tmps) (hd : a.defers = []) (h : evRegion E callF ops draw st = some st') (hQ : ∀ a' w', Lands base Z G w st' a' w' → Q .normal a' w') : (Code.region id ops draw).wp P Q a w := by
  unfold evRegion at h
  cases draw with
  | false =>
    refine wp_region ?_
    have := evOps_wp (ops := ops) hE hC ops.toList 0 st st' Z G a w (by simp) S H T hd (by simpa using h) hQ
    rw [List.range_eq_range']
    simpa using this
  | true =>
    simp only [if_true] at h
    split at h
    rotate_left
    · cases h
    rename_i hok
    have R := okRegion_ok hok
    split at h
    rotate_left
    · cases h
    rename_i st1 hh
    refine wp_region_any hE.mix ?_
    have hdst : ∀ (i j : Nat) (x y : Oper), ops.toList[i]? = some x → ops.toList[j]? = some y → i ≠ j → isAlloc x = true → x.dst ≠ y.dst := fun i j x y hx hy => R.dsts i j x y (by simpa using hx) (by simpa using hy)
    have Hd := H.drew
    have Td : TRel Z G w.drew (fun _ => False) st.tm a.tmps := T.ext (Ext.drew base Z G w)
    obtain ⟨G1, k1, k2, k3, ⟨B, k4, k5⟩, _⟩ := hoist_ok ops.toList Hd Td hh hdst
    have hlist : ∀ k, (Array.replicate ops.size false).getD k false = false := by intro k; simp [Array.getD]
    refine sim hE hC R (Z0 := Z) (G0 := G) (wS := w) (n0 := st.hp.length) (fun b z hz => lt_of_get (H.pend b z.1 z.2 hz).1) hQ B (fun i j x y hx hy => k5 i j x y (by simpa using hx) (by simpa using hy)) ops.size (Array.replicate ops.size false) st1 a w.drew Z G1 (by simp) ?_ (fun k o ho hk => ?_) (S.ext (Ext.drew base Z G w))
      ⟨fun _ _ h => h, k1, (Ext.drew base Z G w).below, fun _ _ _ => rfl, fun _ _ h => .inl h⟩ k2 ?_ hd (fun i o ho ha _ => k4 i o (by simpa using ho) ha) ?_
    · exact Nat.le_trans (List.length_filter_le _ _) (by simp)
    · rw [isListed, hlist] at hk; cases hk
    · refine ⟨k3.len, fun s hs hns => k3.rel s hs fun h => ?_⟩
      rcases h with h | ⟨m, o, ho, ha, hmd⟩
      · exact h
      · exact hns ⟨m, o, by simpa using ho, ha, hlist m, hmd⟩
    · have : left ops.toList (Array.replicate ops.size false) = others ops.toList := by
        unfold left
        rw [List.filter_eq_self]
        intro k _
        rw [hlist]; rfl
      rw [this]; exact h
end Go.EV
/-
  The evaluator is right: code, functions, calls of any depth.
-/
set_option linter.unusedSimpArgs false
set_option linter.unusedVariables false
namespace Go.EV
open Go.RowKit
variable {E : Env} {P : Program}

def X.toExit : X → Exit
  | .normal => .normal
  | .exit id => .exit id
  | .ret => .ret
/-- Where a piece of code leads. -/
def Goes (base : Nat) (Z : Zone) (G : Ghost) (w : World) (x : X) (st : St) : Exit → Act → World → Prop := fun e a w' => e = x.toExit ∧ Lands base Z G w st a w'

theorem code_ok {w0 : World} (hE : EnvOk E P w0) {callF : CallF} (hC : CallOk P w0 callF) {base : Nat} {f : FuncId} {n : Nat} : ∀ (c : Code) (cur : Nat) (st : St) (x : X) (st' : St), evCode E callF (iter n) f cur c st = some (x, st') →
    ∀ (Z : Zone) (G : Ghost) (a : Act) (w : World), Sit w0 base Z w → HRel base Z G st.hp w → TRel Z G w (fun _ => False) st.tm a.tmps → a.defers = [] → c.wp P (Goes base Z G w x st') a w
  | .skip, cur, st, x, st', h, Z, G, a, w, S, H, T, hd => by
    simp only [evCode, Option.some.injEq, Prod.mk.injEq] at h
    obtain ⟨rfl, rfl⟩ := h
    exact wp_skip ⟨rfl, hd, Z, G, .refl _ _ _ _, H, T⟩
  | .region id ops draw, cur, st, x, st', h, Z, G, a, w, S, H, T, hd => by
    simp only [evCode] at h
    split at h
    · rename_i s hs
      injection h with h; injection h with h1 h2; subst h1; subst h2
      exact evRegion_wp hE hC S H T hd hs fun a' w' hl => ⟨rfl, hl⟩
    · cases h
  | .seq c d, cur, st, x, st', h, Z, G, a, w, S, H, T, hd => by
    simp only [evCode] at h
    split at h
    · rename_i s hs
      refine wp_seq (wp_mono (code_ok hE hC c cur st .normal s hs Z G a w S H T hd) ?_)
      rintro e a' w' ⟨rfl, hd', Z', G', EX, H', T'⟩
      refine wp_mono (code_ok hE hC d cur s x st' h Z' G' a' w' (S.ext EX) H' T' hd') ?_
      rintro e a2 w2 ⟨rfl, hl⟩
      exact ⟨rfl, hl.trans EX⟩
    · rename_i hn
      refine wp_seq (wp_mono (code_ok hE hC c cur st x st' h Z G a w S H T hd) ?_)
      rintro e a' w' ⟨rfl, hl⟩
      cases x with
      | normal => exact absurd h (hn st')
      | exit id => exact ⟨rfl, hl⟩
      | ret => exact ⟨rfl, hl⟩
  | .cond o c d, cur, st, x, st', h, Z, G, a, w, S, H, T, hd => by
    simp only [evCode] at h
    have ho := opnd_ok hE S T o (fun _ _ h => h)
    split at h
    · rename_i hb
      rw [hb] at ho
      exact wp_cond_true ho.bool_inv (code_ok hE hC c cur st x st' h Z G a w S H T hd)
    · rename_i hb
      rw [hb] at ho
      exact wp_cond_false ho.bool_inv (code_ok hE hC d cur st x st' h Z G a w S H T hd)
    · cases h
  | .block id c, cur, st, x, st', h, Z, G, a, w, S, H, T, hd => by
    simp only [evCode] at h
    split at h
    · rename_i id' s hs
      refine wp_block (wp_mono (code_ok hE hC c id st (.exit id') s hs Z G a w S H T hd) ?_)
      rintro e a' w' ⟨rfl, hl⟩
      show Exit.inBlock id _ (.exit id') a' w'
      simp only [Exit.inBlock]
      split at h
      · rename_i e
        injection h with h; injection h with h1 h2; subst h1; subst h2
        rw [if_pos e]; exact ⟨rfl, hl⟩
      · rename_i e
        injection h with h; injection h with h1 h2; subst h1; subst h2
        rw [if_neg e]; exact ⟨rfl, hl⟩
    · rename_i hn
      refine wp_block (wp_mono (code_ok hE hC c id st x st' h Z G a w S H T hd) ?_)
      rintro e a' w' ⟨rfl, hl⟩
      cases x with
      | normal => exact ⟨rfl, hl⟩
      | exit id' => exact absurd h (hn id' st')
      | ret => exact ⟨rfl, hl⟩
  | .loop c, cur, st, x, st', h, Z, G, a, w, S, H, T, hd => by
    simp only [evCode] at h
    -- rounds, whatever is forgotten at their heads
    have rounds : ∀ (nm : St → St) (G0 : Ghost) (Z0 : Zone) (wS : World),
        (∀ (st : St) (Z : Zone) (G : Ghost) (a : Act) (w : World), G0.le G → HRel base Z G st.hp w → TRel Z G w (fun _ => False) st.tm a.tmps → ∃ G', G0.le G' ∧ HRel base Z G' (nm st).hp w ∧ TRel Z G' w (fun _ => False) (nm st).tm a.tmps) →
        ∀ (k : Nat) (st : St) (x : X) (st' : St), iter k (evCode E callF (iter n) f cur c) nm st = some (x, st') → ∀ (Z : Zone) (G : Ghost) (a : Act) (w : World), Ext base Z0 G0 wS Z G w → Sit w0 base Z w → HRel base Z G st.hp w → TRel Z G w (fun _ => False) st.tm a.tmps → a.defers = [] →
          Code.rounds P c (Goes base Z0 G0 wS x st') k a w := by
      intro nm G0 Z0 wS hnm k
      induction k with
      | zero => intro st x st' h; simp [iter] at h
      | succ k ih =>
        intro st x st' h Z G a w EX S H T hd
        rw [rounds_succ]
        obtain ⟨G', hle, H', T'⟩ := hnm st Z G a w EX.gle H T
        have EX' : Ext base Z0 G0 wS Z G' w := ⟨EX.zsub, hle, EX.below, EX.keep, EX.znew⟩
        simp only [iter] at h
        split at h
        · rename_i s hs
          refine wp_mono (code_ok hE hC c cur (nm st) .normal s hs Z G' a w S H' T' hd) ?_
          rintro e a' w' ⟨rfl, hd', Z2, G2, EX2, H2, T2⟩
          exact ih s x st' h Z2 G2 a' w' (EX'.trans EX2) (S.ext EX2) H2 T2 hd'
        · rename_i hn
          refine wp_mono (code_ok hE hC c cur (nm st) x st' h Z G' a w S H' T' hd) ?_
          rintro e a' w' ⟨rfl, hl⟩
          have hl' := hl.trans EX'
          cases x with
          | normal => exact absurd h (hn st')
          | exit id => exact ⟨rfl, hl'⟩
          | ret => exact ⟨rfl, hl'⟩
    split at h
    · rename_i an _
      obtain ⟨G1, H1, T1, hle⟩ := prepOwn_ok (a := a) an.own H T
      refine wp_mono (wp_loop_rounds n (rounds (normSt an.live (prepOwn an.own st).hp.length) G1 Z w (fun st2 Z2 G2 a2 w2 hle2 H2 T2 => ?_) n (prepOwn an.own st) x st' h Z G1 a w (.refl _ _ _ _) S H1 T1 hd)) ?_
      · obtain ⟨G', k1, k2, k3⟩ := normSt_ok H2 T2 an.live (prepOwn an.own st).hp.length
        exact ⟨G', k3 G1 hle2 (fun b g r h => H1.dom b g r h) (fun b z h => lt_of_get (H1.pend b z.1 z.2 h).1), k1, k2⟩
      · rintro e a' w' ⟨rfl, hl⟩
        exact ⟨rfl, hl.trans ⟨fun _ _ h => h, hle, .refl _ _, fun _ _ _ => rfl, fun _ _ h => .inl h⟩⟩
    · exact wp_loop_rounds n (rounds id G Z w (fun st2 Z2 G2 a2 w2 hle2 H2 T2 => ⟨G2, hle2, H2, T2⟩) n st x st' h Z G a w (.refl _ _ _ _) S H T hd)
  | .exit id, cur, st, x, st', h, Z, G, a, w, S, H, T, hd => by
    simp only [evCode, Option.some.injEq, Prod.mk.injEq] at h
    obtain ⟨rfl, rfl⟩ := h
    exact wp_exit ⟨rfl, hd, Z, G, .refl _ _ _ _, H, T⟩
  | .label l, cur, st, x, st', h, Z, G, a, w, S, H, T, hd => by
    simp only [evCode, Option.some.injEq, Prod.mk.injEq] at h
    obtain ⟨rfl, rfl⟩ := h
    exact wp_label ⟨rfl, hd, Z, G, .refl _ _ _ _, H, T⟩
  | .ret, cur, st, x, st', h, Z, G, a, w, S, H, T, hd => by
    simp only [evCode, Option.some.injEq, Prod.mk.injEq] at h
    obtain ⟨rfl, rfl⟩ := h
    exact wp_ret ⟨rfl, hd, Z, G, .refl _ _ _ _, H, T⟩
  | .scope _, cur, st, x, st', h, _, _, _, _, _, _, _, _ => by simp [evCode] at h
  | .goto _, cur, st, x, st', h, _, _, _, _, _, _, _, _ => by simp [evCode] at h
  | .rangeFunc _ _ _ _, cur, st, x, st', h, _, _, _, _, _, _, _, _ => by simp [evCode] at h
  | .refuse _, cur, st, x, st', h, _, _, _, _, _, _, _, _ => by simp [evCode] at h

def resVar (tmps : Array Value) : ResultVar → Sem Value
  | .tmp t => pure (tmps.getD t Go.undef)
  | .cell p t => do loadVar t (← asAddr (tmps.getD p Go.undef))
theorem results_eq (fd : Func) (tmps : Array Value) : results fd tmps = (do
    let vs ← fd.results.mapM (resVar tmps)
    pure (if h : vs.size = 1 then vs[0] else .tuple vs)) := by
  unfold results
  congr 1
theorem resultVar_ok {w0 : World} (hE : EnvOk E P w0) {base : Nat} {Z : Zone} {G : Ghost} {w : World} {st : St} {a : Act} (H : HRel base Z G st.hp w) (T : TRel Z G w (fun _ => False) st.tm a.tmps) {v : ResultVar} {r : AV} (h : resultAV E st v = some r) :
    ∃ x, (resVar a.tmps v).run P w = .ok x w ∧ Rel Z G w r x := by
  cases v with
  | tmp t =>
    simp only [resultAV, Option.some.injEq] at h; subst h
    exact ⟨_, rfl, T.get t fun h => h⟩
  | cell p t =>
    simp only [resultAV] at h
    have hp := T.get p fun h => h
    obtain ⟨x, hx, hr⟩ := load_ok (P := P) H hE.ti hp h
    refine ⟨x, ?_, hr⟩
    have hptr : ∃ ad, a.tmps.getD p Go.undef = .pointer (some ad) := by
      unfold loadAV at h
      split at h
      · rename_i he; rw [he] at hp; exact hp.ip_inv
      · rename_i he; rw [he] at hp; exact hp.mp_inv
      · cases h
    obtain ⟨ad, had⟩ := hptr
    rw [had] at hx
    simp only [Instr.loadAt, Instr.sureAddr, Sem.run_bind, Sem.run_pure, Result.andThen_ok] at hx
    simp only [resVar, had, Sem.run_bind, asAddr, Sem.run_pure, Result.andThen_ok, hx]

theorem mapM_ok {α : Type} {w : World} {Z : Zone} {G : Ghost} {f : α → Option AV} {g : α → Sem Value} : ∀ {l : List α} {rs : List AV}, mapO f l = some rs → (∀ a r, f a = some r → ∃ x, (g a).run P w = .ok x w ∧ Rel Z G w r x) →
    ∃ xs : List Value, (l.mapM g).run P w = .ok xs w ∧ xs.length = rs.length ∧ ∀ i, i < rs.length → Rel Z G w (rs.getD i .undef) (xs.getD i Go.undef)
  | [], rs, h, _ => by
    simp only [mapO, Option.some.injEq] at h; subst h
    exact ⟨[], rfl, rfl, fun i hi => by simp at hi⟩
  | a :: l, rs, h, hf => by
    simp only [mapO] at h
    cases hfa : f a with
    | none => rw [hfa] at h; cases h
    | some r =>
      cases hm : mapO f l with
      | none => rw [hfa, hm] at h; cases h
      | some rs' =>
        rw [hfa, hm] at h; injection h with h; subst h
        obtain ⟨x, hx, hr⟩ := hf a r hfa
        obtain ⟨xs, h1, h2, h3⟩ := mapM_ok hm hf
        refine ⟨x :: xs, ?_, by simp [h2], fun i hi => ?_⟩
        · simp only [List.mapM_cons, Sem.run_bind, hx, Result.andThen_ok, h1, Sem.run_pure]
        · cases i with
          | zero => simpa using hr
          | succ i => simpa using h3 i (by simpa using hi)

theorem results_ok {w0 : World} (hE : EnvOk E P w0) {base : Nat} {Z : Zone} {G : Ghost} {w : World} {st : St} {a : Act} (H : HRel base Z G st.hp w) (T : TRel Z G w (fun _ => False) st.tm a.tmps) {fd : Func} {r : AV} (h : resultsAV E fd st = some r) :
    ∃ x, (results fd a.tmps).run P w = .ok x w ∧ Rel Z G w r x := by
  unfold resultsAV at h
  have key : ∀ rs, mapO (resultAV E st) fd.results.toList = some rs → ∃ xs : List Value, (results fd a.tmps).run P w = .ok (if h : xs.toArray.size = 1 then xs.toArray[0] else .tuple xs.toArray) w ∧ xs.length = rs.length ∧ ∀ i, i < rs.length → Rel Z G w (rs.getD i .undef) (xs.getD i Go.undef) := by
    intro rs hrs
    obtain ⟨xs, h1, h2, h3⟩ := mapM_ok (P := P) (g := resVar a.tmps) hrs (fun v r hv => resultVar_ok hE H T hv)
    refine ⟨xs, ?_, h2, h3⟩
    rw [results_eq]
    simp only [Array.mapM_eq_mapM_toList, Sem.run_bind, Sem.run_map, h1, Result.andThen_ok, Sem.run_pure]
  split at h
  · rename_i v hm
    injection h with h; subst h
    obtain ⟨xs, h1, h2, h3⟩ := key _ hm
    obtain ⟨x, rfl⟩ := List.length_eq_one_iff.1 (show xs.length = 1 by simpa using h2)
    exact ⟨x, by simpa using h1, by simpa using h3 0 (by simp)⟩
  · rename_i vs hne hm
    injection h with h; subst h
    obtain ⟨xs, h1, h2, h3⟩ := key _ hm
    have hne1 : ¬ xs.toArray.size = 1 := by
      intro e
      have : vs.length = 1 := by rw [← h2]; simpa using e
      obtain ⟨v, rfl⟩ := List.length_eq_one_iff.1 this
      exact hne v rfl
    rw [dif_neg hne1] at h1
    refine ⟨_, h1, .tup _ _ (by simp [h2]) fun i hi => ?_⟩
    rw [list_getD]; exact h3 i hi
  · cases h

theorem bodyF_ok {w0 : World} (hE : EnvOk E P w0) {callF : CallF} (hC : CallOk P w0 callF) {n : Nat} {f : FuncId} {args : List AV} {hp hp' : Heap} {r : AV} (h : bodyF E callF (iter n) f args hp = some (r, hp')) :
    Enters P f ∧ ∀ (base : Nat) (Z : Zone) (G : Ghost) (w : World) (vs : Array Value), Sit w0 base Z w → HRel base Z G hp w → LRel Z G w args vs → Calls P f vs w fun e w' => ∃ v, e = .returned v ∧ OpPost base Z G hp' w r v w' := by
  unfold bodyF at h
  split at h
  rotate_left
  · cases h
  rename_i fd hf
  obtain ⟨hfn, hname⟩ := hE.fn f fd hf
  split at h
  rotate_left
  · cases h
  rename_i c hc
  refine ⟨⟨fd, hfn, by rw [hc]; rfl, hname⟩, fun base Z G w vs S H hl => ?_⟩
  have T : TRel Z G w (fun _ => False) (args ++ List.replicate (fd.ntmps - args.length) (.tup [])) (vs ++ Array.replicate (fd.ntmps - vs.size) Go.undef) := by
    refine ⟨by simp [hl.1], fun i hi _ => ?_⟩
    rw [append_getD]
    by_cases hlt : i < args.length
    · rw [if_pos hlt]
      have : (vs ++ Array.replicate (fd.ntmps - vs.size) Go.undef).getD i Go.undef = vs.getD i Go.undef := by
        rw [Array.getD_eq_getD_getElem?, Array.getD_eq_getD_getElem?, Array.getElem?_append_left (by rw [← hl.1]; exact hlt)]
      rw [this]; exact hl.2 i hlt
    · rw [if_neg hlt]
      have hu : Rel Z G w (.tup []) Go.undef := .pure (.tup [] #[] rfl (fun i hi => by simp at hi))
      have h1 : (List.replicate (fd.ntmps - args.length) (AV.tup [])).getD (i - args.length) .undef = .tup [] := by
        have hi2 : i - args.length < fd.ntmps - args.length := by
          have := hi; simp only [List.length_append, List.length_replicate] at this; omega
        simp only [List.getD_eq_getElem?_getD, List.getElem?_replicate]
        rw [if_pos hi2]; rfl
      have h2 : (vs ++ Array.replicate (fd.ntmps - vs.size) Go.undef).getD i Go.undef = Go.undef := by
        rw [Array.getD_eq_getD_getElem?, Array.getElem?_append_right (by rw [← hl.1]; omega)]
        simp only [Array.getElem?_replicate]
        split <;> rfl
      rw [h1, h2]; exact hu
  have go : ∀ x st', evCode E callF (iter n) f 0 c ⟨args ++ List.replicate (fd.ntmps - args.length) (.tup []), hp⟩ = some (x, st') → (x = .normal ∨ x = .ret) → (resultsAV E fd st').map (·, st'.hp) = some (r, hp') →
      Calls P f vs w fun e w' => ∃ v, e = .returned v ∧ OpPost base Z G hp' w r v w' := by
    intro x st' hx hxx hr
    refine calls_of_wp hfn hc (wp_mono (code_ok hE hC c 0 _ x st' hx Z G { tmps := vs ++ Array.replicate (fd.ntmps - vs.size) Go.undef, defers := [] } w S H T rfl) ?_)
    rintro e a' w' ⟨rfl, hd', Z', G', EX, H', T'⟩
    cases hra : resultsAV E fd st' with
    | none => rw [hra] at hr; cases hr
    | some r' =>
      rw [hra] at hr; injection hr with hr; injection hr with h1 h2; subst h1; subst h2
      obtain ⟨v, hv, hrel⟩ := results_ok hE H' T' hra
      rcases hxx with rfl | rfl
      · exact ⟨hd', v, hv, v, rfl, Z', G', EX, H', hrel⟩
      · exact ⟨hd', v, hv, v, rfl, Z', G', EX, H', hrel⟩
  split at h
  · rename_i st' hx; exact go .normal st' hx (.inl rfl) h
  · rename_i st' hx; exact go .ret st' hx (.inr rfl) h
  · cases h

/-- THE EVALUATOR IS RIGHT. -/
theorem evFn_ok {w0 : World} (hE : EnvOk E P w0) : ∀ n, CallOk P w0 (evFn E n)
  | 0 => fun f args hp r hp' h => by simp [evFn] at h
  | n + 1 => fun f args hp r hp' h => bodyF_ok hE (evFn_ok hE n) (by simpa [evFn] using h)
end Go.EV
/-
  The evaluator without a bound on rounds and depth, and its equations.
-/
set_option linter.unusedSimpArgs false
set_option linter.unusedVariables false
namespace Go.EV
variable {E : Env}

def CLe (c d : CallF) : Prop := ∀ f a h r, c f a h = some r → d f a h = some r
def GLe (g g' : St → Option (X × St)) : Prop := ∀ s r, g s = some r → g' s = some r
def ILe (i j : Iter) : Prop := ∀ g g' nm st r, GLe g g' → i g nm st = some r → j g' nm st = some r

theorem pureF_mono {c d : CallF} (h : CLe c d) {f : FuncId} {args : List AV} {r : AV} (e : pureF c f args = some r) : pureF d f args = some r := by
  unfold pureF at e ⊢
  split at e
  · rename_i r1 hp1 hc
    rw [h _ _ _ _ hc]; exact e
  · cases e
theorem evCall_mono {c d : CallF} (h : CLe c d) {hp : Heap} {f : FuncId} {args : List AV} {r : AV × Heap} (e : evCall E c hp f args = some r) : evCall E d hp f args = some r := by
  unfold evCall at e ⊢
  split at e
  · split at e
    · rename_i args' ha
      split at e
      · rename_i r' hr
        (try rw [ha]); (try simp only); rw [pureF_mono h hr]; exact e
      · cases e
    · cases e
  · split at e
    · rename_i r' hp' hc
      rw [h _ _ _ _ hc]; exact e
    · cases e
  · split at e
    · rename_i r' hp' hc
      rw [h _ _ _ _ hc]; exact e
    · cases e
  · exact e
theorem evAny_mono {c d : CallF} (h : CLe c d) {tm : List AV} {hp : Heap} {op : Op} {r : AV × Heap} (e : evAny E c tm hp op = some r) : evAny E d tm hp op = some r := by
  unfold evAny at e ⊢
  split at e
  · split at e
    · rename_i g caps hf
      (try rw [hf]); exact evCall_mono h e
    · cases e
  · exact e
theorem evOps_mono {c d : CallF} (h : CLe c d) {all : List Oper} : ∀ {l : List Oper} {st st' : St}, evOps E c all l st = some st' → evOps E d all l st = some st'
  | [], st, st', e => e
  | o :: l, st, st', e => by
    simp only [evOps] at e ⊢
    split at e
    · rename_i hg
      (try rw [hg])
      split at e
      · rename_i v hp hv
        (try simp only); rw [evAny_mono h hv]; exact evOps_mono h e
      · cases e
    · rename_i hg
      (try rw [hg]); exact evOps_mono h e
    · cases e
theorem evD_mono {c d : CallF} (h : CLe c d) {all : List Oper} {conf : List Nat} {o : Oper} {tm : List AV} {hp : Heap} {r : AV × Heap} (e : evD E c all conf o tm hp = some r) : evD E d all conf o tm hp = some r := by
  unfold evD at e ⊢
  split at e
  · rename_i hg
    (try rw [hg])
    split at e
    · rename_i hk
      simp only [hk, if_true]
      split at e
      · rename_i hc; simp only [hc, if_true]; exact evAny_mono h e
      · cases e
    · rename_i hk
      simp only [hk, if_false]; exact evAny_mono h e
  · rename_i hg; (try rw [hg]); exact e
  · cases e
theorem stepD_mono {c d : CallF} (h : CLe c d) {all : List Oper} {anc : List (List Nat)} {k : Nat} {st st' : St} (e : stepD E c all anc k st = some st') : stepD E d all anc k st = some st' := by
  unfold stepD at e ⊢
  split at e
  · rename_i o ho
    (try simp only [ho])
    split at e
    · rename_i v hp hv
      rw [evD_mono h hv]; exact e
    · cases e
  · cases e
theorem evListD_mono {c d : CallF} (h : CLe c d) {all : List Oper} {anc : List (List Nat)} : ∀ {l : List Nat} {st st' : St}, evListD E c all anc l st = some st' → evListD E d all anc l st = some st'
  | [], st, st', e => e
  | k :: l, st, st', e => by
    simp only [evListD] at e ⊢
    split at e
    · rename_i s hs
      rw [stepD_mono h hs]; exact evListD_mono h e
    · cases e
theorem evRegion_mono {c d : CallF} (h : CLe c d) {ops : Array Oper} {draw : Bool} {st st' : St} (e : evRegion E c ops draw st = some st') : evRegion E d ops draw st = some st' := by
  unfold evRegion at e ⊢
  split at e
  · rename_i hd
    rw [if_pos hd]
    split at e
    · rename_i hok
      rw [if_pos hok]
      split at e
      · rename_i s hs
        (try rw [hs]); exact evListD_mono h e
      · cases e
    · cases e
  · rename_i hd
    rw [if_neg hd]; exact evOps_mono h e
theorem evCode_mono {c d : CallF} {i j : Iter} (h : CLe c d) (hi : ILe i j) {f : FuncId} : ∀ {k : Code} {cur : Nat} {st : St} {r : X × St}, evCode E c i f cur k st = some r → evCode E d j f cur k st = some r
  | .skip, cur, st, r, e => by simpa [evCode] using e
  | .region id ops draw, cur, st, r, e => by
    simp only [evCode] at e ⊢
    split at e
    · rename_i s hs; rw [evRegion_mono h hs]; exact e
    · cases e
  | .seq a b, cur, st, r, e => by
    simp only [evCode] at e ⊢
    split at e
    · rename_i s hs; rw [evCode_mono h hi hs]; exact evCode_mono h hi e
    · rename_i hn
      have := evCode_mono h hi e
      rw [this]
      obtain ⟨x, s⟩ := r
      cases x with
      | normal => exact absurd e (hn s)
      | _ => rfl
  | .cond o a b, cur, st, r, e => by
    simp only [evCode] at e ⊢
    split at e
    · rename_i ho; (try rw [ho]); exact evCode_mono h hi e
    · rename_i ho; (try rw [ho]); exact evCode_mono h hi e
    · cases e
  | .block id b, cur, st, r, e => by
    simp only [evCode] at e ⊢
    split at e
    · rename_i id' s hs; rw [evCode_mono h hi hs]; exact e
    · rename_i hn
      have := evCode_mono h hi e
      rw [this]
      obtain ⟨x, s⟩ := r
      cases x with
      | exit id' => exact absurd e (hn id' s)
      | _ => rfl
  | .loop b, cur, st, r, e => by
    simp only [evCode] at e ⊢
    split at e
    · exact hi _ _ _ _ _ (fun s r => evCode_mono h hi) e
    · exact hi _ _ _ _ _ (fun s r => evCode_mono h hi) e
  | .exit id, cur, st, r, e => by simpa [evCode] using e
  | .label l, cur, st, r, e => by simpa [evCode] using e
  | .ret, cur, st, r, e => by simpa [evCode] using e
  | .scope _, cur, st, r, e => by simp [evCode] at e
  | .goto _, cur, st, r, e => by simp [evCode] at e
  | .rangeFunc _ _ _ _, cur, st, r, e => by simp [evCode] at e
  | .refuse _, cur, st, r, e => by simp [evCode] at e
theorem bodyF_mono {c d : CallF} {i j : Iter} (h : CLe c d) (hi : ILe i j) : CLe (bodyF E c i) (bodyF E d j) := by
  intro f args hp r e
  unfold bodyF at e ⊢
  split at e
  · rename_i fd hf
    (try simp only [hf])
    split at e
    · rename_i k hk
      (try simp only [hk])
      split at e
      · rename_i st hs; rw [evCode_mono h hi hs]; exact e
      · rename_i st hs; rw [evCode_mono h hi hs]; exact e
      · cases e
    · cases e
  · cases e

theorem iter_mono : ∀ {n m : Nat}, n ≤ m → ILe (iter n) (iter m)
  | 0, _, _ => fun g g' nm st r _ e => by simp [iter] at e
  | n + 1, 0, h => absurd h (by omega)
  | n + 1, m + 1, h => fun g g' nm st r hg e => by
    simp only [iter] at e ⊢
    split at e
    · rename_i s hs
      rw [hg _ _ hs]; exact iter_mono (by omega) g g' nm s r hg e
    · rename_i hn
      rw [hg _ _ e]
      obtain ⟨x, s⟩ := r
      cases x with
      | normal => exact absurd e (hn s)
      | _ => rfl
theorem evFn_mono : ∀ {n m : Nat}, n ≤ m → CLe (evFn E n) (evFn E m)
  | 0, _, _ => fun f a h r e => by simp [evFn] at e
  | n + 1, 0, h => absurd h (by omega)
  | n + 1, m + 1, h => fun f a hp r e => bodyF_mono (evFn_mono (by omega)) (iter_mono (by omega)) f a hp r e

open Classical in
/-- What a growing family of answers comes to. -/
noncomputable def lim {α : Type} (g : Nat → Option α) : Option α := if h : ∃ n r, g n = some r then some (Classical.choose (Classical.choose_spec h)) else none
theorem lim_iff {α : Type} {g : Nat → Option α} (hm : ∀ n m r, n ≤ m → g n = some r → g m = some r) (r : α) : lim g = some r ↔ ∃ n, g n = some r := by
  constructor
  · intro h
    unfold lim at h
    split at h
    · rename_i hex
      injection h with h
      exact ⟨_, h ▸ Classical.choose_spec (Classical.choose_spec hex)⟩
    · cases h
  · rintro ⟨n, hn⟩
    have hex : ∃ n r, g n = some r := ⟨n, r, hn⟩
    unfold lim
    rw [dif_pos hex]
    have h1 := Classical.choose_spec (Classical.choose_spec hex)
    have h2 := hm _ (max (Classical.choose hex) n) _ (Nat.le_max_left _ _) h1
    have h3 := hm n (max (Classical.choose hex) n) _ (Nat.le_max_right _ _) hn
    rw [h2] at h3; exact h3

noncomputable def callW (E : Env) : CallF := fun f a h => lim fun n => evFn E n f a h
noncomputable def iterW : Iter := fun g nm st => lim fun n => iter n g nm st
theorem callW_iff {f : FuncId} {a : List AV} {h : Heap} {r : AV × Heap} : callW E f a h = some r ↔ ∃ n, evFn E n f a h = some r := lim_iff (fun n m r hnm e => evFn_mono hnm _ _ _ _ e) r
theorem iterW_iff {g : St → Option (X × St)} {nm : St → St} {st : St} {r : X × St} : iterW g nm st = some r ↔ ∃ n, iter n g nm st = some r := lim_iff (fun n m r hnm e => iter_mono hnm g g nm st r (fun _ _ h => h) e) r

theorem evFn_le (n : Nat) : CLe (evFn E n) (callW E) := fun f a h r e => callW_iff.2 ⟨n, e⟩
theorem iter_le (n : Nat) : ILe (iter n) iterW := fun g g' nm st r hg e => iterW_iff.2 ⟨n, iter_mono (Nat.le_refl _) g g' nm st r hg e⟩

/-! What is reached without a bound is reached with some bound. -/
theorem pureF_fin {f : FuncId} {args : List AV} {r : AV} (e : pureF (callW E) f args = some r) : ∃ n, pureF (evFn E n) f args = some r := by
  unfold pureF at e
  split at e
  · rename_i r1 hp1 hc
    obtain ⟨n, hn⟩ := callW_iff.1 hc
    exact ⟨n, by unfold pureF; rw [hn]; exact e⟩
  · cases e
theorem evCall_fin {hp : Heap} {f : FuncId} {args : List AV} {r : AV × Heap} (e : evCall E (callW E) hp f args = some r) : ∃ n, evCall E (evFn E n) hp f args = some r := by
  unfold evCall at e
  split at e
  · rename_i hm
    split at e
    · rename_i args' ha
      split at e
      · rename_i r' hr
        obtain ⟨n, hn⟩ := pureF_fin hr
        exact ⟨n, by unfold evCall; simp only [hm, ha, hn]; exact e⟩
      · cases e
    · cases e
  · rename_i hm
    split at e
    · rename_i r' hp' hc
      obtain ⟨n, hn⟩ := callW_iff.1 hc
      exact ⟨n, by unfold evCall; simp only [hm, hn]; exact e⟩
    · cases e
  · rename_i hm
    split at e
    · rename_i r' hp' hc
      obtain ⟨n, hn⟩ := callW_iff.1 hc
      exact ⟨n, by unfold evCall; simp only [hm, hn]; exact e⟩
    · cases e
  · rename_i h0 h1 h3
    refine ⟨0, ?_⟩
    unfold evCall
    split
    · rename_i h; exact absurd h h0
    · rename_i h; exact absurd h h1
    · rename_i h; exact absurd h h3
    · exact e
theorem evAny_fin {tm : List AV} {hp : Heap} {op : Op} {r : AV × Heap} (e : evAny E (callW E) tm hp op = some r) : ∃ n, evAny E (evFn E n) tm hp op = some r := by
  unfold evAny at e
  split at e
  · split at e
    · rename_i g caps hf
      obtain ⟨n, hn⟩ := evCall_fin e
      exact ⟨n, by unfold evAny; simp only [hf]; exact hn⟩
    · cases e
  · rename_i hop
    refine ⟨0, ?_⟩
    unfold evAny
    split
    · rename_i f args ts; exact absurd rfl (hop f args ts)
    · exact e
theorem evOps_fin {all : List Oper} : ∀ {l : List Oper} {st st' : St}, evOps E (callW E) all l st = some st' → ∃ n, evOps E (evFn E n) all l st = some st'
  | [], st, st', e => ⟨0, e⟩
  | o :: l, st, st', e => by
    simp only [evOps] at e
    split at e
    · rename_i hg
      split at e
      · rename_i v hp hv
        obtain ⟨n, hn⟩ := evAny_fin hv
        obtain ⟨m, hm⟩ := evOps_fin e
        refine ⟨max n m, ?_⟩
        simp only [evOps, hg]
        rw [evAny_mono (evFn_mono (Nat.le_max_left n m)) hn]
        exact evOps_mono (evFn_mono (Nat.le_max_right n m)) hm
      · cases e
    · rename_i hg
      obtain ⟨m, hm⟩ := evOps_fin e
      exact ⟨m, by simp only [evOps, hg]; exact hm⟩
    · cases e
theorem evD_fin {all : List Oper} {conf : List Nat} {o : Oper} {tm : List AV} {hp : Heap} {r : AV × Heap} (e : evD E (callW E) all conf o tm hp = some r) : ∃ n, evD E (evFn E n) all conf o tm hp = some r := by
  unfold evD at e
  split at e
  · rename_i hg
    split at e
    · rename_i hk
      split at e
      · rename_i hc
        obtain ⟨n, hn⟩ := evAny_fin e
        exact ⟨n, by unfold evD; simp only [hg, hk, hc, if_true]; exact hn⟩
      · cases e
    · rename_i hk
      obtain ⟨n, hn⟩ := evAny_fin e
      exact ⟨n, by unfold evD; simp only [hg, hk, if_false]; exact hn⟩
  · rename_i hg; exact ⟨0, by unfold evD; simp only [hg]; exact e⟩
  · cases e
theorem stepD_fin {all : List Oper} {anc : List (List Nat)} {k : Nat} {st st' : St} (e : stepD E (callW E) all anc k st = some st') : ∃ n, stepD E (evFn E n) all anc k st = some st' := by
  unfold stepD at e
  split at e
  · rename_i o ho
    split at e
    · rename_i v hp hv
      obtain ⟨n, hn⟩ := evD_fin hv
      exact ⟨n, by unfold stepD; simp only [ho, hn]; exact e⟩
    · cases e
  · cases e
theorem evListD_fin {all : List Oper} {anc : List (List Nat)} : ∀ {l : List Nat} {st st' : St}, evListD E (callW E) all anc l st = some st' → ∃ n, evListD E (evFn E n) all anc l st = some st'
  | [], st, st', e => ⟨0, e⟩
  | k :: l, st, st', e => by
    simp only [evListD] at e
    split at e
    · rename_i s hs
      obtain ⟨n, hn⟩ := stepD_fin hs
      obtain ⟨m, hm⟩ := evListD_fin e
      refine ⟨max n m, ?_⟩
      simp only [evListD]
      rw [stepD_mono (evFn_mono (Nat.le_max_left n m)) hn]
      exact evListD_mono (evFn_mono (Nat.le_max_right n m)) hm
    · cases e
theorem evRegion_fin {ops : Array Oper} {draw : Bool} {st st' : St} (e : evRegion E (callW E) ops draw st = some st') : ∃ n, evRegion E (evFn E n) ops draw st = some st' := by
  unfold evRegion at e
  split at e
  · rename_i hd
    split at e
    · rename_i hok
      split at e
      · rename_i s hs
        obtain ⟨n, hn⟩ := evListD_fin e
        exact ⟨n, by unfold evRegion; simp only [hd, if_true, hok, hs]; exact hn⟩
      · cases e
    · cases e
  · rename_i hd
    obtain ⟨n, hn⟩ := evOps_fin e
    exact ⟨n, by unfold evRegion; rw [if_neg hd]; exact hn⟩
theorem evCode_fin {f : FuncId} : ∀ {k : Code} {cur : Nat} {st : St} {r : X × St}, evCode E (callW E) iterW f cur k st = some r → ∃ n, evCode E (evFn E n) (iter n) f cur k st = some r
  | .skip, cur, st, r, e => ⟨0, by simpa [evCode] using e⟩
  | .region id ops draw, cur, st, r, e => by
    simp only [evCode] at e
    split at e
    · rename_i s hs
      obtain ⟨n, hn⟩ := evRegion_fin hs
      exact ⟨n, by simp only [evCode, hn]; exact e⟩
    · cases e
  | .seq a b, cur, st, r, e => by
    simp only [evCode] at e
    split at e
    · rename_i s hs
      obtain ⟨n, hn⟩ := evCode_fin hs
      obtain ⟨m, hm⟩ := evCode_fin e
      refine ⟨max n m, ?_⟩
      simp only [evCode]
      rw [evCode_mono (evFn_mono (Nat.le_max_left n m)) (iter_mono (Nat.le_max_left n m)) hn]
      exact evCode_mono (evFn_mono (Nat.le_max_right n m)) (iter_mono (Nat.le_max_right n m)) hm
    · rename_i hn
      obtain ⟨m, hm⟩ := evCode_fin e
      refine ⟨m, ?_⟩
      simp only [evCode, hm]
      obtain ⟨x, s⟩ := r
      cases x with
      | normal => exact absurd e (hn s)
      | _ => rfl
  | .cond o a b, cur, st, r, e => by
    simp only [evCode] at e
    split at e
    · rename_i ho
      obtain ⟨n, hn⟩ := evCode_fin e
      exact ⟨n, by simp only [evCode, ho]; exact hn⟩
    · rename_i ho
      obtain ⟨n, hn⟩ := evCode_fin e
      exact ⟨n, by simp only [evCode, ho]; exact hn⟩
    · cases e
  | .block id b, cur, st, r, e => by
    simp only [evCode] at e
    split at e
    · rename_i id' s hs
      obtain ⟨n, hn⟩ := evCode_fin hs
      exact ⟨n, by simp only [evCode, hn]; exact e⟩
    · rename_i hn
      obtain ⟨m, hm⟩ := evCode_fin e
      refine ⟨m, ?_⟩
      simp only [evCode, hm]
      obtain ⟨x, s⟩ := r
      cases x with
      | exit id' => exact absurd e (hn id' s)
      | _ => rfl
  | .loop b, cur, st, r, e => by
    simp only [evCode] at e
    have key : ∀ (nm : St → St) (k : Nat) (st : St) (r : X × St), iter k (evCode E (callW E) iterW f cur b) nm st = some r → ∃ n, iter k (evCode E (evFn E n) (iter n) f cur b) nm st = some r := by
      intro nm k
      induction k with
      | zero => intro st r e; simp [iter] at e
      | succ k ih =>
        intro st r e
        simp only [iter] at e
        split at e
        · rename_i s hs
          obtain ⟨n, hn⟩ := evCode_fin hs
          obtain ⟨m, hm⟩ := ih s r e
          refine ⟨max n m, ?_⟩
          simp only [iter]
          rw [evCode_mono (evFn_mono (Nat.le_max_left n m)) (iter_mono (Nat.le_max_left n m)) hn]
          exact iter_mono (Nat.le_refl k) _ _ nm s r (fun s r => evCode_mono (evFn_mono (Nat.le_max_right n m)) (iter_mono (Nat.le_max_right n m))) hm
        · rename_i hn
          obtain ⟨m, hm⟩ := evCode_fin e
          refine ⟨m, ?_⟩
          simp only [iter, hm]
          obtain ⟨x, s⟩ := r
          cases x with
          | normal => exact absurd e (hn s)
          | _ => rfl
    have fin : ∀ (nm : St → St) (st : St) (r : X × St), iterW (evCode E (callW E) iterW f cur b) nm st = some r → ∃ n, iter n (evCode E (evFn E n) (iter n) f cur b) nm st = some r := by
      intro nm st r e
      obtain ⟨k, hk⟩ := iterW_iff.1 e
      obtain ⟨n, hn⟩ := key nm k st r hk
      refine ⟨max k n, ?_⟩
      exact iter_mono (Nat.le_max_left k n) _ _ nm st r (fun s r => evCode_mono (evFn_mono (Nat.le_max_right k n)) (iter_mono (Nat.le_max_right k n))) hn
    split at e
    · rename_i an han
      obtain ⟨n, hn⟩ := fin _ _ _ e
      exact ⟨n, by simp only [evCode, han]; exact hn⟩
    · rename_i han
      obtain ⟨n, hn⟩ := fin _ _ _ e
      exact ⟨n, by simp only [evCode, han]; exact hn⟩
  | .exit id, cur, st, r, e => ⟨0, by simpa [evCode] using e⟩
  | .label l, cur, st, r, e => ⟨0, by simpa [evCode] using e⟩
  | .ret, cur, st, r, e => ⟨0, by simpa [evCode] using e⟩
  | .scope _, cur, st, r, e => by simp [evCode] at e
  | .goto _, cur, st, r, e => by simp [evCode] at e
  | .rangeFunc _ _ _ _, cur, st, r, e => by simp [evCode] at e
  | .refuse _, cur, st, r, e => by simp [evCode] at e

/-- The equation of a call. -/
theorem callW_eq (f : FuncId) (args : List AV) (hp : Heap) : callW E f args hp = bodyF E (callW E) iterW f args hp := by
  apply Option.ext
  intro r
  constructor
  · intro h
    obtain ⟨n, hn⟩ := callW_iff.1 h
    cases n with
    | zero => simp [evFn] at hn
    | succ n => exact bodyF_mono (evFn_le n) (iter_le n) f args hp r hn
  · intro h
    unfold bodyF at h
    split at h
    rotate_left
    · cases h
    rename_i fd hf
    split at h
    rotate_left
    · cases h
    rename_i k hk
    have go : ∀ x st, evCode E (callW E) iterW f 0 k ⟨args ++ List.replicate (fd.ntmps - args.length) (.tup []), hp⟩ = some (x, st) → ∃ n, evCode E (evFn E n) (iter n) f 0 k ⟨args ++ List.replicate (fd.ntmps - args.length) (.tup []), hp⟩ = some (x, st) := fun x st e => evCode_fin e
    split at h
    · rename_i st hs
      obtain ⟨n, hn⟩ := go _ _ hs
      exact callW_iff.2 ⟨n + 1, by show bodyF E (evFn E n) (iter n) f args hp = some r; unfold bodyF; simp only [hf, hk, hn]; exact h⟩
    · rename_i st hs
      obtain ⟨n, hn⟩ := go _ _ hs
      exact callW_iff.2 ⟨n + 1, by show bodyF E (evFn E n) (iter n) f args hp = some r; unfold bodyF; simp only [hf, hk, hn]; exact h⟩
    · cases h
/-- The equation of a loop. -/
theorem iterW_eq (g : St → Option (X × St)) (nm : St → St) (st : St) : iterW g nm st = match g (nm st) with
    | some (.normal, st') => iterW g nm st'
    | r => r := by
  apply Option.ext
  intro r
  constructor
  · intro h
    obtain ⟨n, hn⟩ := iterW_iff.1 h
    cases n with
    | zero => simp [iter] at hn
    | succ n =>
      simp only [iter] at hn
      split at hn
      · rename_i s hs
        rw [hs]; exact iterW_iff.2 ⟨n, hn⟩
      · rename_i hne
        rw [hn]
        obtain ⟨x, s⟩ := r
        cases x with
        | normal => exact absurd hn (hne s)
        | _ => rfl
  · intro h
    split at h
    · rename_i s hs
      obtain ⟨n, hn⟩ := iterW_iff.1 h
      exact iterW_iff.2 ⟨n + 1, by simp only [iter, hs]; exact hn⟩
    · rename_i hne
      refine iterW_iff.2 ⟨1, ?_⟩
      simp only [iter, h]
      obtain ⟨x, s⟩ := r
      cases x with
      | normal => exact absurd h (hne s)
      | _ => rfl

/-- The evaluator without bounds is right, too. -/
theorem callW_ok {P : Program} {w0 : World} (hE : EnvOk E P w0) : CallOk P w0 (callW E) := by
  intro f args hp r hp' h
  obtain ⟨n, hn⟩ := callW_iff.1 h
  exact evFn_ok hE n f args hp r hp' hn
end Go.EV
/-
  What the evaluator asks of a program, read off the program.
-/
set_option linter.unusedSimpArgs false
set_option linter.unusedVariables false
namespace Go.EV

noncomputable def tiOf (P : Program) (t : TypeId) : Option TI :=
  match P.underlying t, P.info? t with
  | some d, some i => match i.zero with
    | some z => some ⟨d, isAggD d, i.size, i.bytes, constAV z⟩
    | none => none
  | _, _ => none
theorem tiOf_ok {P : Program} {t : TypeId} {ti : TI} (h : tiOf P t = some ti) : TiOk P t ti := by
  unfold tiOf at h
  split at h
  · rename_i d i hd hi
    split at h
    · rename_i z hz
      injection h with h; subst h
      exact ⟨hd, rfl, i, hi, rfl, rfl, z, hz, fun Z w => constAV_rel z⟩
    · cases h
  · cases h

noncomputable def fnOf (P : Program) (f : FuncId) : Option Func := P.funcs[f]?
end Go.EV
