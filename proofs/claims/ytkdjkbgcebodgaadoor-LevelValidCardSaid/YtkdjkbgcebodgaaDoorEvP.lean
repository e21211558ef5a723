/-
  How own memory grows and is written.
-/
import Derived.Test.YtkdjkbgcebodgaaDoorEvD
import Derived.Laws.CopyOwn
import Derived.IntWalk
set_option linter.unusedSimpArgs false
set_option linter.unusedVariables false
namespace Go.EV
open Go.RowKit
variable {E : Env} {P : Program}

def Ghost.put (G : Ghost) (b g : Nat) (r : Option Nat × Nat) (sz : Nat) : Ghost :=
  ⟨fun b' g' => if b' = b ∧ g' = g then some r else G.row b' g', fun b' => if b' = b then sz else G.sz b', G.pend⟩
theorem Ghost.put_same (G : Ghost) (b g : Nat) (r : Option Nat × Nat) (sz : Nat) : (G.put b g r sz).row b g = some r := by simp [Ghost.put]
theorem Ghost.put_row {G : Ghost} {b g : Nat} {r : Option Nat × Nat} {sz b' g' : Nat} {r' : Option Nat × Nat} (h : (G.put b g r sz).row b' g' = some r') : (b' = b ∧ g' = g ∧ r' = r) ∨ G.row b' g' = some r' := by
  simp only [Ghost.put] at h
  split at h
  · rename_i e; injection h with h; exact .inl ⟨e.1, e.2, h.symm⟩
  · exact .inr h
theorem Ghost.put_le {G : Ghost} {b g : Nat} {r : Option Nat × Nat} {sz : Nat} (hn : G.row b g = none) (hs : ∀ g' r', G.row b g' = some r' → G.sz b = sz) : G.le (G.put b g r sz) := by
  refine ⟨fun b' g' r' h => ?_, fun b' g' r' h => ?_, fun _ _ h => h⟩
  · simp only [Ghost.put]
    split
    · rename_i e; rw [e.1, e.2, hn] at h; cases h
    · exact h
  · simp only [Ghost.put]
    split
    · rename_i e; subst e; exact (hs _ _ h).symm
    · rfl

theorem get_append {hp : Heap} {x y : HB} {b : Nat} (h : (hp ++ [x])[b]? = some y) : (b < hp.length ∧ hp[b]? = some y) ∨ (b = hp.length ∧ y = x) := by
  rcases Nat.lt_or_ge b hp.length with hl | hl
  · rw [List.getElem?_append_left hl] at h; exact .inl ⟨hl, h⟩
  · rw [List.getElem?_append_right hl] at h
    by_cases e : b = hp.length
    · subst e; simp at h; exact .inr ⟨rfl, h.symm⟩
    · have : b - hp.length ≠ 0 := by omega
      have : ([x] : List HB)[b - hp.length]? = none := by simp; omega
      rw [this] at h; cases h
theorem get_set {hp : Heap} {x y : HB} {b k : Nat} (hk : k < hp.length) (h : (hp.set k x)[b]? = some y) : (b ≠ k ∧ hp[b]? = some y) ∨ (b = k ∧ y = x) := by
  rw [List.getElem?_set] at h
  split at h
  · rename_i e; subst e; simp [hk] at h; exact .inr ⟨rfl, h.symm⟩
  · rename_i e; exact .inl ⟨fun h => e h.symm, h⟩
theorem lt_of_get {hp : Heap} {b : Nat} {x : HB} (h : hp[b]? = some x) : b < hp.length := by
  rcases Nat.lt_or_ge b hp.length with hl | hl
  · exact hl
  · rw [List.getElem?_eq_none hl] at h; cases h

/-- Variables that are still to be made, when a row grows at the end, or is put in another's place. -/
theorem pend_append {G : Ghost} {hp : Heap} {x : HB} {b0 g0 : Nat} {r : Option Nat × Nat} {s : Nat} (h : ∀ (b : Nat) (z : AV) (sz : Nat), G.pend b = some (z, sz) → hp[b]? = some (HB.row [z] sz 0 0) ∧ ∀ g, G.row b g = none) (hb : b0 = hp.length) :
    ∀ (b : Nat) (z : AV) (sz : Nat), (G.put b0 g0 r s).pend b = some (z, sz) → (hp ++ [x])[b]? = some (HB.row [z] sz 0 0) ∧ ∀ g, (G.put b0 g0 r s).row b g = none := by
  intro b z sz hp'
  obtain ⟨h1, h2⟩ := h b z sz hp'
  have hl := lt_of_get h1
  refine ⟨by rw [List.getElem?_append_left hl]; exact h1, fun g => ?_⟩
  simp only [Ghost.put]
  rw [if_neg (by omega)]
  exact h2 g
theorem pend_put {G : Ghost} {hp : Heap} {x : HB} {b0 g0 g1 : Nat} {r r1 : Option Nat × Nat} {s : Nat} (h : ∀ (b : Nat) (z : AV) (sz : Nat), G.pend b = some (z, sz) → hp[b]? = some (HB.row [z] sz 0 0) ∧ ∀ g, G.row b g = none) (hb : G.row b0 g1 = some r1) :
    ∀ (b : Nat) (z : AV) (sz : Nat), (G.put b0 g0 r s).pend b = some (z, sz) → (hp.set b0 x)[b]? = some (HB.row [z] sz 0 0) ∧ ∀ g, (G.put b0 g0 r s).row b g = none := by
  intro b z sz hp'
  obtain ⟨h1, h2⟩ := h b z sz hp'
  have hne : b0 ≠ b := by intro e; subst e; rw [h2] at hb; cases hb
  refine ⟨by rw [List.getElem?_set_ne hne]; exact h1, fun g => ?_⟩
  simp only [Ghost.put]
  rw [if_neg (fun e => hne e.1.symm)]
  exact h2 g
theorem pend_set {G : Ghost} {hp : Heap} {x : HB} {b0 g1 : Nat} {r1 : Option Nat × Nat} (h : ∀ (b : Nat) (z : AV) (sz : Nat), G.pend b = some (z, sz) → hp[b]? = some (HB.row [z] sz 0 0) ∧ ∀ g, G.row b g = none) (hb : G.row b0 g1 = some r1) :
    ∀ (b : Nat) (z : AV) (sz : Nat), G.pend b = some (z, sz) → (hp.set b0 x)[b]? = some (HB.row [z] sz 0 0) ∧ ∀ g, G.row b g = none := by
  intro b z sz hp'
  obtain ⟨h1, h2⟩ := h b z sz hp'
  have hne : b0 ≠ b := by intro e; subst e; rw [h2] at hb; cases hb
  exact ⟨by rw [List.getElem?_set_ne hne]; exact h1, h2⟩

/-- What a world's change leaves of own memory: the zone's cells and each own block as they were. -/
theorem HRel.carry {base : Nat} {Z : Zone} {G : Ghost} {hp : Heap} {w w' : World} (H : HRel base Z G hp w) (hs : w.heap.size ≤ w'.heap.size) (hc : ∀ c j, Z c j → w'.cell? ⟨c, j, none⟩ = w.cell? ⟨c, j, none⟩)
    (hb : ∀ b g c cap, G.row b g = some (some c, cap) → w'.heap[c]? = w.heap[c]?) : HRel base Z G hp w' := by
  refine ⟨Nat.le_trans H.lo hs, fun c j h => Nat.lt_of_lt_of_le (H.zone c j h) hs, H.dom, fun b es sz wg com he => ?_, fun b s pos he g oc cap hg => ?_, H.excl, H.pend, H.wgle⟩
  · obtain ⟨hf, hr⟩ := H.row b es sz wg com he
    refine ⟨hf, fun g oc cap hg => ?_⟩
    obtain ⟨h1, h2, h3, h4, h5⟩ := hr g oc cap hg
    refine ⟨h1, h2, h3, h4, fun c hoc => ?_⟩
    obtain ⟨h6, h7, cs, t, h8, h9, h10⟩ := h5 c hoc
    subst hoc
    exact ⟨h6, h7, cs, t, (hb b g c cap hg).trans h8, h9, fun hw i o hi ho => (h10 hw i o hi ho).mono (fun _ _ h => h) (.refl G) hc⟩
  · obtain ⟨hg0, c, hoc, h1, h2⟩ := H.sit b s pos he g oc cap hg
    subst hoc
    exact ⟨hg0, c, rfl, h1, (hb b g c cap hg).trans h2⟩

theorem HRel.drew {base : Nat} {Z : Zone} {G : Ghost} {hp : Heap} {w : World} (H : HRel base Z G hp w) : HRel base Z G hp w.drew :=
  H.carry (Nat.le_refl _) (fun _ _ _ => rfl) (fun _ _ _ _ _ => rfl)
theorem Ext.drew (base : Nat) (Z : Zone) (G : Ghost) (w : World) : Ext base Z G w Z G w.drew :=
  ⟨fun _ _ h => h, .refl G, (Below.refl _ _).drew, fun _ _ _ => rfl, fun _ _ h => .inl h⟩

theorem alloc_heap (w : World) (o : Obj) (k : Nat) : (w.alloc o).heap[k]? = if k = w.heap.size then some o else w.heap[k]? := by
  show (w.heap.push o)[k]? = _
  rw [Array.getElem?_push]
theorem HRel.old {base : Nat} {Z : Zone} {G : Ghost} {hp : Heap} {w : World} (H : HRel base Z G hp w) {b g c cap : Nat} (h : G.row b g = some (some c, cap)) : c < w.heap.size := by
  have hb := H.dom b g _ h
  obtain ⟨x, hx⟩ : ∃ x, hp[b]? = some x := ⟨hp[b], List.getElem?_eq_getElem hb⟩
  have key : ∃ o, w.heap[c]? = some o := by
    cases x with
    | row es sz wg com =>
      obtain ⟨_, _, cs, t, h8, _⟩ := ((H.row b es sz wg com hx).2 g _ cap h).2.2.2.2 c rfl
      exact ⟨_, h8⟩
    | sit s pos =>
      obtain ⟨_, c', e, _, h2⟩ := H.sit b s pos hx g _ cap h
      injection e with e; subst e
      exact ⟨_, h2⟩
  obtain ⟨o, ho⟩ := key
  rcases Nat.lt_or_ge c w.heap.size with hl | hl
  · exact hl
  · rw [Array.getElem?_eq_none hl] at ho; cases ho

/-- A block more that nobody owns. -/
theorem HRel.alloc {base : Nat} {Z : Zone} {G : Ghost} {hp : Heap} {w : World} (H : HRel base Z G hp w) (o : Obj) : HRel base Z G hp (w.alloc o) := by
  refine H.carry (by simp) (fun c j h => World.cell?_alloc_lt _ _ _ (H.zone c j h)) (fun b g c cap h => ?_)
  rw [alloc_heap, if_neg (Nat.ne_of_lt (H.old h))]
theorem Ext.alloc {base : Nat} {Z : Zone} {G : Ghost} {hp : Heap} {w : World} (H : HRel base Z G hp w) (o : Obj) : Ext base Z G w Z G (w.alloc o) :=
  ⟨fun _ _ h => h, .refl G, (Below.refl _ _).alloc H.lo _, fun c j h => World.cell?_alloc_lt _ _ _ (H.zone c j h), fun _ _ h => .inl h⟩

/-- A new own row in a new block. -/
theorem HRel.push {base : Nat} {Z : Zone} {G : Ghost} {hp : Heap} {w : World} (H : HRel base Z G hp w) {es : List AV} {sz wg cap : Nat} {cs : Array Value} (t : TypeId)
    (hf : ∀ i, i < es.length → (es.getD i .undef).fits sz = true) (hs : cs.size = cap * sz) (hc : es.length ≤ cap)
    (hr : ∀ i o, i < es.length → o < sz → Rel Z G w ((es.getD i .undef).cells.getD o .undef) (cs.getD (i * sz + o) Go.undef)) (hwg : wg ≤ es.length) :
    HRel base Z (G.put hp.length es.length (some w.heap.size, cap) sz) (hp ++ [.row es sz wg 0]) (w.alloc (.cells cs t)) ∧
      Ext base Z G w Z (G.put hp.length es.length (some w.heap.size, cap) sz) (w.alloc (.cells cs t)) := by
  have hnone : ∀ g, G.row hp.length g = none := by
    intro g
    cases h : G.row hp.length g with
    | none => rfl
    | some r => exact absurd (H.dom _ _ _ h) (Nat.lt_irrefl _)
  have hle : G.le (G.put hp.length es.length (some w.heap.size, cap) sz) := Ghost.put_le (hnone _) (fun g r h => by rw [hnone] at h; cases h)
  have H1 := H.alloc (.cells cs t)
  have E1 := Ext.alloc H (.cells cs t)
  have E2 : Ext base Z G w Z (G.put hp.length es.length (some w.heap.size, cap) sz) (w.alloc (.cells cs t)) := ⟨E1.zsub, hle, E1.below, E1.keep, E1.znew⟩
  refine ⟨⟨H1.lo, H1.zone, fun b g r h => ?_, fun b es' sz' wg' com' he => ?_, fun b s pos he g oc cap' hg => ?_, fun b b' g g' c cap1 cap2 h1 h2 => ?_, pend_append H.pend rfl, fun b es' sz' wg' com' he => ?_⟩, E2⟩
  · simp only [List.length_append, List.length_singleton]
    rcases Ghost.put_row h with ⟨rfl, _, _⟩ | h
    · omega
    · have := H.dom _ _ _ h; omega
  · rcases get_append he with ⟨hl, he2⟩ | ⟨rfl, he2⟩
    · obtain ⟨hf', hr'⟩ := H1.row b es' sz' wg' com' he2
      refine ⟨hf', fun g oc cap' hg => ?_⟩
      have hg : G.row b g = some (oc, cap') := by
        rcases Ghost.put_row hg with ⟨rfl, _, _⟩ | h
        · omega
        · exact h
      obtain ⟨h1, h2, h3, h4, h5⟩ := hr' g oc cap' hg
      refine ⟨(hle.sz _ _ _ hg).trans h1, h2, h3, h4, fun c hoc => ?_⟩
      obtain ⟨h6, h7, cs', t', h8, h9, h10⟩ := h5 c hoc
      exact ⟨h6, h7, cs', t', h8, h9, fun hw i o hi ho => (h10 hw i o hi ho).mono (fun _ _ h => h) hle (fun _ _ _ => rfl)⟩
    · injection he2 with e1 e2 e3 e4
      subst e1; subst e2; subst e3; subst e4
      refine ⟨hf, fun g oc cap' hg => ?_⟩
      rcases Ghost.put_row hg with ⟨_, rfl, hrr⟩ | hg
      · injection hrr with e1 e2
        subst e1; subst e2
        refine ⟨by simp [Ghost.put], Nat.le_refl _, hc, fun h => (nomatch h), fun c hoc => ?_⟩
        injection hoc with hoc
        subst hoc
        refine ⟨H.lo, fun j hz => absurd (H.zone _ _ hz) (Nat.lt_irrefl _), cs, t, by rw [alloc_heap, if_pos rfl], hs, fun _ i o hi ho => (hr i o hi ho).ext E2⟩
      · rw [hnone] at hg; cases hg
  · rcases get_append he with ⟨hl, he2⟩ | ⟨_, he2⟩
    · have hg : G.row b g = some (oc, cap') := by
        rcases Ghost.put_row hg with ⟨rfl, _, _⟩ | h
        · omega
        · exact h
      exact H1.sit b s pos he2 g oc cap' hg
    · cases he2
  · rcases Ghost.put_row h1 with ⟨rfl, _, e1⟩ | h1 <;> rcases Ghost.put_row h2 with ⟨rfl, _, e2⟩ | h2
    · rfl
    · injection e1 with e1 _; injection e1 with e1; subst e1; exact absurd (H.old h2) (Nat.lt_irrefl _)
    · injection e2 with e2 _; injection e2 with e2; subst e2; exact absurd (H.old h1) (Nat.lt_irrefl _)
    · exact H.excl _ _ _ _ _ _ _ h1 h2
  · rcases get_append he with ⟨hl, he2⟩ | ⟨rfl, he2⟩
    · exact H.wgle _ _ _ _ _ he2
    · injection he2 with e1 e2 e3 e4
      subst e1; subst e3; exact hwg

/-- A new iterator over a string. -/
theorem HRel.pushSit {base : Nat} {Z : Zone} {G : Ghost} {hp : Heap} {w : World} (H : HRel base Z G hp w) (s : List UInt8) (pos : Nat) :
    HRel base Z (G.put hp.length 0 (some w.heap.size, 0) 0) (hp ++ [.sit s pos]) (w.alloc (.stringIter ⟨s.toArray⟩ pos)) ∧
      Ext base Z G w Z (G.put hp.length 0 (some w.heap.size, 0) 0) (w.alloc (.stringIter ⟨s.toArray⟩ pos)) := by
  have hnone : ∀ g, G.row hp.length g = none := by
    intro g
    cases h : G.row hp.length g with
    | none => rfl
    | some r => exact absurd (H.dom _ _ _ h) (Nat.lt_irrefl _)
  have hle : G.le (G.put hp.length 0 (some w.heap.size, 0) 0) := Ghost.put_le (hnone _) (fun g r h => by rw [hnone] at h; cases h)
  have H1 := H.alloc (.stringIter ⟨s.toArray⟩ pos)
  have E1 := Ext.alloc H (.stringIter ⟨s.toArray⟩ pos)
  have E2 : Ext base Z G w Z (G.put hp.length 0 (some w.heap.size, 0) 0) (w.alloc (.stringIter ⟨s.toArray⟩ pos)) := ⟨E1.zsub, hle, E1.below, E1.keep, E1.znew⟩
  refine ⟨⟨H1.lo, H1.zone, fun b g r h => ?_, fun b es' sz' wg' com' he => ?_, fun b s' pos' he g oc cap' hg => ?_, fun b b' g g' c cap1 cap2 h1 h2 => ?_, pend_append H.pend rfl, fun b es' sz' wg' com' he => ?_⟩, E2⟩
  · simp only [List.length_append, List.length_singleton]
    rcases Ghost.put_row h with ⟨rfl, _, _⟩ | h
    · omega
    · have := H.dom _ _ _ h; omega
  · rcases get_append he with ⟨hl, he2⟩ | ⟨rfl, he2⟩
    · obtain ⟨hf', hr'⟩ := H1.row b es' sz' wg' com' he2
      refine ⟨hf', fun g oc cap' hg => ?_⟩
      have hg : G.row b g = some (oc, cap') := by
        rcases Ghost.put_row hg with ⟨rfl, _, _⟩ | h
        · omega
        · exact h
      obtain ⟨h1, h2, h3, h4, h5⟩ := hr' g oc cap' hg
      refine ⟨(hle.sz _ _ _ hg).trans h1, h2, h3, h4, fun c hoc => ?_⟩
      obtain ⟨h6, h7, cs', t', h8, h9, h10⟩ := h5 c hoc
      exact ⟨h6, h7, cs', t', h8, h9, fun hw i o hi ho => (h10 hw i o hi ho).mono (fun _ _ h => h) hle (fun _ _ _ => rfl)⟩
    · cases he2
  · rcases get_append he with ⟨hl, he2⟩ | ⟨rfl, he2⟩
    · have hg : G.row b g = some (oc, cap') := by
        rcases Ghost.put_row hg with ⟨rfl, _, _⟩ | h
        · omega
        · exact h
      exact H1.sit b s' pos' he2 g oc cap' hg
    · injection he2 with e1 e2
      subst e1; subst e2
      rcases Ghost.put_row hg with ⟨_, rfl, hrr⟩ | hg
      · injection hrr with e1 e2
        subst e1
        exact ⟨rfl, _, rfl, H.lo, by rw [alloc_heap, if_pos rfl]⟩
      · rw [hnone] at hg; cases hg
  · rcases Ghost.put_row h1 with ⟨rfl, _, e1⟩ | h1 <;> rcases Ghost.put_row h2 with ⟨rfl, _, e2⟩ | h2
    · rfl
    · injection e1 with e1 _; injection e1 with e1; subst e1; exact absurd (H.old h2) (Nat.lt_irrefl _)
    · injection e2 with e2 _; injection e2 with e2; subst e2; exact absurd (H.old h1) (Nat.lt_irrefl _)
    · exact H.excl _ _ _ _ _ _ _ h1 h2
  · rcases get_append he with ⟨hl, he2⟩ | ⟨rfl, he2⟩
    · exact H.wgle _ _ _ _ _ he2
    · cases he2
end Go.EV
/-
  Each operation of the model does what the evaluator says: operations that make or write memory.
-/
set_option linter.unusedSimpArgs false
set_option linter.unusedVariables false
namespace Go.EV
open Go.RowKit
variable {E : Env} {P : Program}

theorem splice_getD {α : Type} (L vs : List α) (p : Nat) (d : α) (h : p + vs.length ≤ L.length) (k : Nat) :
    (L.take p ++ vs ++ L.drop (p + vs.length)).getD k d = if k < p then L.getD k d else if k < p + vs.length then vs.getD (k - p) d else L.getD k d := by
  have hl : (L.take p).length = p := by simp; omega
  simp only [List.getD_eq_getElem?_getD]
  by_cases h1 : k < p
  · rw [if_pos h1, List.append_assoc, List.getElem?_append_left (by omega), List.getElem?_take, if_pos h1]
  · rw [if_neg h1]
    by_cases h2 : k < p + vs.length
    · rw [if_pos h2, List.append_assoc, List.getElem?_append_right (by omega), hl, List.getElem?_append_left (by omega)]
    · rw [if_neg h2, List.getElem?_append_right (by simp; omega)]
      simp only [List.length_append, hl, List.getElem?_drop]
      congr 2; omega

theorem idx_cases {i i' o o' sz : Nat} (ho : o < sz) (ho' : o' < sz) : (i' < i ∧ i' * sz + o' < i * sz) ∨ (i' = i) ∨ (i < i' ∧ i * sz + sz ≤ i' * sz) := by
  rcases Nat.lt_trichotomy i' i with h | h | h
  · refine .inl ⟨h, ?_⟩
    have : (i' + 1) * sz ≤ i * sz := Nat.mul_le_mul_right _ h
    rw [Nat.add_mul] at this; omega
  · exact .inr (.inl h)
  · refine .inr (.inr ⟨h, ?_⟩)
    have : (i + 1) * sz ≤ i' * sz := Nat.mul_le_mul_right _ h
    rw [Nat.add_mul] at this; omega

theorem writeCells_cells {e v : AV} {o n : Nat} (hn : 0 < n) (hv : v.fits n = true) (h : o + n ≤ e.cells.length) : (writeCells e o v.cells).cells = e.cells.take o ++ v.cells ++ e.cells.drop (o + v.cells.length) ∧
    ((writeCells e o v.cells).cells.length = e.cells.length) ∧ ((∀ x ∈ e.cells, x.one = true) → ∀ x ∈ (writeCells e o v.cells).cells, x.one = true) := by
  simp only [AV.fits, Bool.and_eq_true, beq_iff_eq, List.all_eq_true] at hv
  obtain ⟨hl, ho⟩ := hv
  have single : e.cells = [e] → writeCells e o v.cells = v.cells.headD .undef → (writeCells e o v.cells).cells = e.cells.take o ++ v.cells ++ e.cells.drop (o + v.cells.length) := by
    intro h1 h2
    rw [h1] at h ⊢
    simp only [List.length_singleton] at h
    have ho0 : o = 0 := by omega
    have hn1 : v.cells.length = 1 := by omega
    subst ho0
    obtain ⟨x, hx⟩ := List.length_eq_one_iff.1 hn1
    rw [h2, hx]
    have := ho x (by rw [hx]; simp)
    simp [AV.cells_one this]
  have e1 : (writeCells e o v.cells).cells = e.cells.take o ++ v.cells ++ e.cells.drop (o + v.cells.length) := by
    cases e with
    | agg cs => rfl
    | _ => exact single rfl rfl
  refine ⟨e1, by rw [e1]; simp; omega, fun hone x hx => ?_⟩
  rw [e1] at hx
  simp only [List.mem_append] at hx
  rcases hx with (hx | hx) | hx
  · exact hone x (List.mem_of_mem_take hx)
  · exact ho x hx
  · exact hone x (List.mem_of_mem_drop hx)

theorem fits_iff {n : Nat} {v : AV} : v.fits n = true ↔ v.cells.length = n ∧ ∀ x ∈ v.cells, x.one = true := by
  simp [AV.fits, List.all_eq_true]

theorem set_getD {es : List AV} {i j : Nat} {v : AV} (hi : i < es.length) : (es.set i v).getD j .undef = if j = i then v else es.getD j .undef := by
  simp only [List.getD_eq_getElem?_getD, List.getElem?_set]
  by_cases h : i = j
  · subst h; simp [hi]
  · rw [if_neg h, if_neg (fun e => h e.symm)]

/-- A row of the own memory is written: other own rows and the zone stay. -/
theorem HRel.write {base : Nat} {Z : Zone} {G : Ghost} {hp : Heap} {w : World} (H : HRel base Z G hp w) {b c cap : Nat} {es es' : List AV} {sz wg com : Nat} (hb : hp[b]? = some (.row es sz wg com))
    (hg : G.row b es.length = some (some c, cap)) (hl : es'.length = es.length) (hf : ∀ i, i < es'.length → (es'.getD i .undef).fits sz = true) {cs cs' : Array Value} {t : TypeId} (hh : w.heap[c]? = some (.cells cs t (0, 0)))
    (hs : cs'.size = cs.size) (hk : ∀ j, j < com * sz → cs'[j]? = cs[j]?)
    (hr : ∀ i o, i < es.length → o < sz → Rel Z G w ((es'.getD i .undef).cells.getD o .undef) (cs'.getD (i * sz + o) Go.undef)) :
    HRel base Z G (hp.set b (.row es' sz es.length com)) (w.setRow c cs') ∧ Ext base Z G w Z G (w.setRow c cs') := by
  obtain ⟨hsz, _, hgc, _, hc⟩ := (H.row b es sz wg com hb).2 _ _ cap hg
  obtain ⟨hbase, hz, cs0, t0, hh0, hs0, _⟩ := hc c rfl
  rw [hh] at hh0; injection hh0 with e; injection e with e1 e2; subst e1; subst e2
  have keep : ∀ c' j, Z c' j → (w.setRow c cs').cell? ⟨c', j, none⟩ = w.cell? ⟨c', j, none⟩ := by
    intro c' j hzj
    by_cases e : c' = c
    · subst e
      rw [cell_setRow_same w c' j cs cs' t (0, 0) hh, cell_of_row w c' j cs t (0, 0) hh]
      exact hk j (hz j hzj)
    · exact cell_setRow_other w c cs' _ e
  have EX : Ext base Z G w Z G (w.setRow c cs') := ⟨fun _ _ h => h, .refl G, below_setRow (.refl _ _) hbase cs', keep, fun _ _ h => .inl h⟩
  have hbl := lt_of_get hb
  refine ⟨⟨by simpa using H.lo, fun c' j h => by simpa using H.zone c' j h, fun b' g r h => by simpa using H.dom b' g r h, fun b' es2 sz2 wg2 com2 he => ?_, fun b' s pos he g oc cap' hg' => ?_, H.excl, pend_set H.pend hg, fun b' es2 sz2 wg2 com2 he => ?_⟩, EX⟩
  · rcases get_set hbl he with ⟨hne, he2⟩ | ⟨rfl, he2⟩
    · obtain ⟨hf2, hr2⟩ := H.row b' es2 sz2 wg2 com2 he2
      refine ⟨hf2, fun g oc cap' hg' => ?_⟩
      obtain ⟨h1, h2, h3, h4, h5⟩ := hr2 g oc cap' hg'
      refine ⟨h1, h2, h3, h4, fun c' hoc => ?_⟩
      obtain ⟨h6, h7, cs2, t2, h8, h9, h10⟩ := h5 c' hoc
      subst hoc
      have : c' ≠ c := by intro e; subst e; exact hne (H.excl _ _ _ _ _ _ _ hg' hg)
      exact ⟨h6, h7, cs2, t2, by rw [setRow_other w c c' cs' this]; exact h8, h9, fun hw i o hi ho => (h10 hw i o hi ho).ext EX⟩
    · injection he2 with e1 e2 e3 e4
      subst e1; subst e2; subst e3; subst e4
      refine ⟨hf, fun g oc cap' hg' => ?_⟩
      obtain ⟨h1, h2, h3, h4, h5⟩ := (H.row b' es sz2 wg com2 hb).2 g oc cap' hg'
      refine ⟨h1, by omega, h3, h4, fun c' hoc => ?_⟩
      obtain ⟨h6, h7, cs2, t2, h8, h9, h10⟩ := h5 c' hoc
      by_cases e : c' = c
      · subst e
        rw [hh] at h8; injection h8 with e; injection e with e1 e2; subst e1; subst e2
        refine ⟨h6, h7, cs', t, setRow_heap w c' cs cs' t (0, 0) hh, by rw [hs]; exact h9, fun hw i o hi ho => ?_⟩
        exact (hr i o (by omega) ho).ext EX
      · refine ⟨h6, h7, cs2, t2, by rw [setRow_other w c c' cs' e]; exact h8, h9, fun hw i o hi ho => ?_⟩
        exfalso
        have : g = es.length := by omega
        subst this
        rw [hg] at hg'; injection hg' with e'; injection e' with e1 e2; subst hoc; injection e1 with e1; exact e e1.symm
  · rcases get_set hbl he with ⟨hne, he2⟩ | ⟨rfl, he2⟩
    · obtain ⟨hg0, c', hoc, h1, h2⟩ := H.sit b' s pos he2 g oc cap' hg'
      subst hoc
      have : c' ≠ c := by intro e; subst e; exact hne (H.excl _ _ _ _ _ _ _ hg' hg)
      exact ⟨hg0, c', rfl, h1, by rw [setRow_other w c c' cs' this]; exact h2⟩
    · cases he2
  · rcases get_set hbl he with ⟨hne, he2⟩ | ⟨rfl, he2⟩
    · exact H.wgle _ _ _ _ _ he2
    · injection he2 with e1 e2 e3 e4
      subst e1; subst e3; omega

theorem store_ok {base : Nat} {Z : Zone} {G : Ghost} {hp hp' : Heap} {w : World} (H : HRel base Z G hp w) (hE : ∀ t ti, E.ti t = some ti → TiOk P t ti) {t : TypeId} {a v : AV} {x y : Value} (ha : Rel Z G w a x) (hv : Rel Z G w v y)
    (h : storeAV E hp t a v = some hp') : ∃ w', (Instr.storeAt t x y).run P w = .ok () w' ∧ HRel base Z G hp' w' ∧ Ext base Z G w Z G w' := by
  unfold storeAV at h
  split at h
  rotate_left
  · cases h
  rename_i ti b g i o hti
  split at h
  rotate_left
  · cases h
  rename_i es sz wg com hb
  split at h
  rotate_left
  · cases h
  rename_i hc
  obtain ⟨hge, hcom, hfit, hpos⟩ := hc
  subst hge
  split at h
  rotate_left
  · cases h
  rename_i e he
  split at h
  rotate_left
  · cases h
  rename_i hle
  injection h with h; subst h
  obtain ⟨hed, hil⟩ := getD_of_get he
  cases ha with
  | pure ha => cases ha
  | mp _ _ _ _ c cap hg hi =>
    obtain ⟨hf, hrow⟩ := H.row b es sz wg com hb
    obtain ⟨hsz, _, hgc, _, hcc⟩ := hrow _ _ cap hg
    obtain ⟨hbase, hz, cs, t', hh, hs, hcont⟩ := hcc c rfl
    have hef := hf i hil
    rw [hed] at hef
    obtain ⟨hel, heone⟩ := fits_iff.1 hef
    obtain ⟨hvs, hvr, hvo⟩ := hv.cellsOf hfit
    obtain ⟨hvl, _⟩ := fits_iff.1 hfit
    obtain ⟨hw1, hw2, hw3⟩ := writeCells_cells hpos hfit hle
    have hbnd : i * sz + o + ti.size ≤ cs.size := by
      have := idx_lt (sz := sz) (o := sz - 1) hil hgc (by omega); omega
    have hrun := run_storeCells_at P c (i * sz + o) t' y.cells.toList 0 cs w hh (by simp; omega) hvo
    have hlen2 : (y.cells.toList).length = ti.size := by simpa using hvs
    refine ⟨w.setRow c (cs.toList.take (i * sz + o) ++ y.cells.toList ++ cs.toList.drop (i * sz + o + y.cells.toList.length)).toArray, ?_, ?_⟩
    · rw [hsz]
      simp only [Instr.storeAt, Instr.sureAddr, Sem.run_bind, Sem.run_pure, Result.andThen_ok, storeVar, run_sizeOf' (hE _ _ hti), hvs, ne_eq, not_true_eq_false, if_false]
      exact hrun
    · rw [hlen2]
      -- every length is one that the row was written at, or older: the content of the present length
      have hrel : ∀ i o, i < es.length → o < sz → Rel Z G w ((es.getD i .undef).cells.getD o .undef) (cs.getD (i * sz + o) Go.undef) := by
        intro i' o' hi' ho'
        exact hcont (H.wgle _ _ _ _ _ hb) i' o' hi' ho'
      refine HRel.write H hb hg (by simp) (fun j hj => ?_) hh ?_ (fun j hj => ?_) (fun i' o' hi' ho' => ?_)
      · rw [set_getD hil]
        split
        · exact fits_iff.2 ⟨by rw [hw2]; exact hel, hw3 heone⟩
        · exact hf j (by simpa using hj)
      · simp; omega
      · have : com * sz ≤ i * sz := Nat.mul_le_mul_right _ hcom
        have hjl : j < cs.size := by omega
        simp only [List.getElem?_toArray, List.append_assoc]
        rw [List.getElem?_append_left (by simp; omega), List.getElem?_take, if_pos (by omega)]
        simp
      · have hsp := splice_getD cs.toList y.cells.toList (i * sz + o) Go.undef (by simp; omega) (i' * sz + o')
        rw [hlen2] at hsp
        have harr : ((cs.toList.take (i * sz + o) ++ y.cells.toList ++ cs.toList.drop (i * sz + o + ti.size)).toArray).getD (i' * sz + o') Go.undef =
            (cs.toList.take (i * sz + o) ++ y.cells.toList ++ cs.toList.drop (i * sz + o + ti.size)).getD (i' * sz + o') Go.undef := by
          rw [Array.getD_eq_getD_getElem?, List.getD_eq_getElem?_getD, List.getElem?_toArray]
        have hcs : ∀ k, cs.toList.getD k Go.undef = cs.getD k Go.undef := by
          intro k; rw [Array.getD_eq_getD_getElem?, List.getD_eq_getElem?_getD, Array.getElem?_toList]
        have hys : ∀ k, y.cells.toList.getD k Go.undef = y.cells.getD k Go.undef := by
          intro k; rw [Array.getD_eq_getD_getElem?, List.getD_eq_getElem?_getD, Array.getElem?_toList]
        rw [harr, hsp, set_getD hil]
        have hosz : o < sz := by omega
        rcases idx_cases (i := i) (i' := i') hosz ho' with ⟨h1, h2⟩ | h1 | ⟨h1, h2⟩
        · rw [if_neg (by omega), if_pos (by omega), hcs]
          exact hrel i' o' hi' ho'
        · subst h1
          rw [if_pos rfl, hw1]
          have hsp2 := splice_getD e.cells v.cells o AV.undef (by omega) o'
          rw [hsp2, hvl]
          by_cases c1 : o' < o
          · rw [if_pos c1, if_pos (show i' * sz + o' < i' * sz + o by omega), hcs, ← hed]; exact hrel i' o' hi' ho'
          · rw [if_neg c1, if_neg (show ¬ (i' * sz + o' < i' * sz + o) by omega)]
            by_cases c2 : o' < o + ti.size
            · rw [if_pos c2, if_pos (show i' * sz + o' < i' * sz + o + ti.size by omega), hys, show i' * sz + o' - (i' * sz + o) = o' - o by omega]
              exact hvr _ (by omega)
            · rw [if_neg c2, if_neg (show ¬ (i' * sz + o' < i' * sz + o + ti.size) by omega), hcs, ← hed]; exact hrel i' o' hi' ho'
        · rw [if_neg (show ¬ (i' * sz + o' < i * sz + o) by omega), if_neg (show ¬ (i' * sz + o' < i * sz + o + ti.size) by omega), if_neg (show ¬ i' = i by omega), hcs]
          exact hrel i' o' hi' ho'
end Go.EV
/-
  Each operation of the model does what the evaluator says: new variables, literals, make, append, ranging over a string.
-/
set_option linter.unusedSimpArgs false
set_option linter.unusedVariables false
namespace Go.EV
open Go.RowKit
variable {E : Env} {P : Program}

/-- What an operation comes to. -/
def OpPost (base : Nat) (Z : Zone) (G : Ghost) (hp' : Heap) (w : World) (r : AV) (v : Value) (w' : World) : Prop :=
  ∃ Z' G', Ext base Z G w Z' G' w' ∧ HRel base Z' G' hp' w' ∧ Rel Z' G' w' r v
theorem OpPost.same {base : Nat} {Z : Zone} {G : Ghost} {hp : Heap} {w : World} {r : AV} {v : Value} (H : HRel base Z G hp w) (h : Rel Z G w r v) : OpPost base Z G hp w r v w :=
  ⟨Z, G, .refl _ _ _ _, H, h⟩

theorem Rel.cellsArr {Z : Zone} {G : Ghost} {w : World} {es : List AV} {sz : Nat} {cs : Array Value} (h : ∀ i o, i < es.length → o < sz → Rel Z G w ((es.getD i .undef).cells.getD o .undef) (cs.getD (i * sz + o) Go.undef)) : True := trivial

theorem newVar_ok {base : Nat} {Z : Zone} {G : Ghost} {hp : Heap} {w : World} (H : HRel base Z G hp w) (t : TypeId) {a : AV} {v : Value} {n : Nat} (ha : Rel Z G w a v) (hf : a.fits n = true) (hn : 0 < n) :
    (newVar t v).run P w = .ok ⟨w.heap.size, 0, none⟩ (w.alloc (.cells v.cells t)) ∧ OpPost base Z G (hp ++ [.row [a] n 0 0]) w (.mp hp.length 1 0 0) (.pointer (some ⟨w.heap.size, 0, none⟩)) (w.alloc (.cells v.cells t)) := by
  obtain ⟨h1, h2, _⟩ := ha.cellsOf hf
  refine ⟨by simp [newVar, newRow], ?_⟩
  obtain ⟨H', E'⟩ := H.push (es := [a]) (sz := n) (wg := 0) (cap := 1) (cs := v.cells) t (fun i hi => by
      have : i = 0 := by simp at hi; omega
      subst this; simpa using hf) (by omega) (by simp) (fun i o hi ho => by
      have : i = 0 := by simp at hi; omega
      subst this; simpa using h2 o ho) (by simp)
  refine ⟨_, _, E', H', ?_⟩
  have := Rel.mp (Z := Z) (w := w.alloc (.cells v.cells t)) hp.length 1 0 0 w.heap.size 1 (Ghost.put_same G hp.length 1 (some w.heap.size, 1) n) (by omega)
  simpa using this

theorem alloc_ok {base : Nat} {Z : Zone} {G : Ghost} {hp : Heap} {w : World} (H : HRel base Z G hp w) {t : TypeId} {ti : TI} (ht : TiOk P t ti) (hf : ti.zero.fits ti.size = true) (hn : 0 < ti.size) :
    ∃ v w', (Instr.alloc t true (.tuple #[])).run P w = .ok v w' ∧ OpPost base Z G (hp ++ [.row [ti.zero] ti.size 0 0]) w (.mp hp.length 1 0 0) v w' := by
  obtain ⟨inf, hi, hs, hb, z, hz, hzr⟩ := ht.info
  obtain ⟨h1, h2⟩ := newVar_ok (P := P) H t (.pure (hzr Z w)) hf hn
  refine ⟨_, _, ?_, h2⟩
  simp only [Instr.alloc, zeroValue, typeInfo, Sem.run_bind, run_program, Result.andThen_ok, hi, hz, Sem.run_pure, h1]

theorem box_ok {base : Nat} {Z : Zone} {G : Ghost} {hp : Heap} {w : World} (H : HRel base Z G hp w) {t : TypeId} {a : AV} {v : Value} {n : Nat} (ha : Rel Z G w a v) (hf : a.fits n = true) (hn : 0 < n) :
    ∃ u w', (Instr.box t v).run P w = .ok u w' ∧ OpPost base Z G (hp ++ [.row [a] n 0 0]) w (.mp hp.length 1 0 0) u w' := by
  obtain ⟨h1, h2⟩ := newVar_ok (P := P) H t ha hf hn
  exact ⟨_, _, by simp only [Instr.box, Sem.run_bind, h1, Result.andThen_ok, Sem.run_pure], h2⟩

/-- Parts laid over cells. -/
theorem foldl_set (vs : List Value) : ∀ (off k : Nat) (cs : Array Value), off + k + vs.length ≤ cs.size →
    ((vs.zipIdx k).foldl (fun cs (c, j) => cs.setIfInBounds (off + j) c) cs) = (cs.toList.take (off + k) ++ vs ++ cs.toList.drop (off + k + vs.length)).toArray := by
  induction vs with
  | nil => intro off k cs _; apply Array.ext'; simp
  | cons v vs ih =>
    intro off k cs h
    simp only [List.length_cons] at h
    simp only [List.zipIdx_cons, List.foldl_cons]
    rw [ih off (k + 1) _ (by simp; omega)]
    apply Array.ext'
    have e := list_seg_step cs.toList (off + k) v vs (by simp; omega)
    simpa [Array.toList_setIfInBounds, Nat.add_assoc] using e
theorem fill_zip (v : Value) (off : Nat) (cs : Array Value) (h : off + v.cells.size ≤ cs.size) :
    (v.cells.zipIdx.foldl (fun cs (c, j) => cs.setIfInBounds (off + j) c) cs) = (cs.toList.take off ++ v.cells.toList ++ cs.toList.drop (off + v.cells.size)).toArray := by
  have := foldl_set v.cells.toList off 0 cs (by simpa using h)
  simp only [Nat.add_zero, Array.length_toList] at this
  rw [← this, ← Array.foldl_toList]
  congr 1
  simp [Array.toList_zipIdx]

def CRel (Z : Zone) (G : Ghost) (w : World) (cs : List AV) (vs : Array Value) : Prop := cs.length = vs.size ∧ ∀ i, i < cs.length → Rel Z G w (cs.getD i .undef) (vs.getD i Go.undef)

theorem CRel.splice {Z : Zone} {G : Ghost} {w : World} {cs : List AV} {vs : Array Value} (h : CRel Z G w cs vs) {a : AV} {v : Value} {n off : Nat} (ha : Rel Z G w a v) (hf : a.fits n = true) (hle : off + n ≤ cs.length) :
    CRel Z G w (cs.take off ++ a.cells ++ cs.drop (off + n)) ((vs.toList.take off ++ v.cells.toList ++ vs.toList.drop (off + v.cells.size)).toArray) := by
  obtain ⟨h1, h2, _⟩ := ha.cellsOf hf
  obtain ⟨hl, _⟩ := fits_iff.1 hf
  have hs := h.1
  refine ⟨by simp; omega, fun i hi => ?_⟩
  have e1 := splice_getD cs a.cells off AV.undef (by omega) i
  have e2 := splice_getD vs.toList v.cells.toList off Go.undef (by simp; omega) i
  rw [hl] at e1
  simp only [Array.length_toList] at e2
  have harr : ((vs.toList.take off ++ v.cells.toList ++ vs.toList.drop (off + v.cells.size)).toArray).getD i Go.undef = (vs.toList.take off ++ v.cells.toList ++ vs.toList.drop (off + v.cells.size)).getD i Go.undef := by
    rw [Array.getD_eq_getD_getElem?, List.getD_eq_getElem?_getD, List.getElem?_toArray]
  have hcs : ∀ (xs : Array Value) k, xs.toList.getD k Go.undef = xs.getD k Go.undef := by
    intro xs k; rw [Array.getD_eq_getD_getElem?, List.getD_eq_getElem?_getD, Array.getElem?_toList]
  rw [harr, e1, e2, hcs, hcs]
  simp only [h1]
  have hi' : i < cs.length := by simp at hi; omega
  by_cases c1 : i < off
  · rw [if_pos c1, if_pos c1]; exact h.2 i hi'
  · rw [if_neg c1, if_neg c1]
    by_cases c2 : i < off + n
    · rw [if_pos c2, if_pos c2]; exact h2 _ (by omega)
    · rw [if_neg c2, if_neg c2]; exact h.2 i hi'

theorem fill_ok {Z : Zone} {G : Ghost} {w : World} {place : Nat → Option (Nat × Nat)} : ∀ {ps : List (Nat × AV)} {qs : List (Nat × Value)} {cs cs' : List AV} {vs : Array Value}, CRel Z G w cs vs → ps.length = qs.length →
    (∀ i (h1 : i < ps.length) (h2 : i < qs.length), ps[i].1 = qs[i].1 ∧ Rel Z G w ps[i].2 qs[i].2) → fillAV place cs ps = some cs' → ∃ vs', Instr.fill place vs qs = some vs' ∧ CRel Z G w cs' vs'
  | [], [], cs, cs', vs, h, _, _, he => by
    simp only [fillAV, Option.some.injEq] at he; subst he; exact ⟨vs, rfl, h⟩
  | [], _ :: _, _, _, _, _, hl, _, _ => by simp at hl
  | _ :: _, [], _, _, _, _, hl, _, _ => by simp at hl
  | (i, a) :: ps, (j, v) :: qs, cs, cs', vs, h, hl, hr, he => by
    obtain ⟨hij, ha⟩ := hr 0 (by simp) (by simp)
    simp only [List.getElem_cons_zero] at hij ha
    subst hij
    simp only [fillAV] at he
    simp only [Instr.fill]
    cases hp : place i with
    | none => rw [hp] at he; cases he
    | some p =>
      obtain ⟨off, n⟩ := p
      rw [hp] at he
      simp only at he ⊢
      split at he
      · rename_i hc
        obtain ⟨h1, h2, _⟩ := ha.cellsOf hc.1
        have hsz := h.1
        rw [if_neg (by simp [h1]; omega), fill_zip v off vs (by omega)]
        exact fill_ok (h.splice ha hc.1 hc.2) (by simpa using hl) (fun k h1 h2 => by
          have := hr (k + 1) (by simpa using h1) (by simpa using h2); simpa using this) he
      · cases he

theorem CRel.ofCells {Z : Zone} {G : Ghost} {w : World} {a : AV} {v : Value} (h : Rel Z G w a v) {n : Nat} (hf : a.fits n = true) : CRel Z G w a.cells v.cells := by
  obtain ⟨h1, h2, _⟩ := h.cellsOf hf
  obtain ⟨hl, _⟩ := fits_iff.1 hf
  exact ⟨by omega, fun i hi => h2 i (by omega)⟩


theorem mapM_places (P : Program) (w : World) (hE : ∀ t ti, E.ti t = some ti → TiOk P t ti) : ∀ (fs : List Field), (∀ f ∈ fs, ∃ ti, E.ti f.type = some ti) → ∃ ps : List (Nat × Nat), ps.length = fs.length ∧ (∀ (i : Nat) (f : Field), fs[i]? = some f → ∀ ti, E.ti f.type = some ti → ps[i]? = some (f.offset, ti.size)) ∧
    (fs.mapM fun (f : Field) => do pure (f.offset, ← sizeOf f.type) : Sem (List (Nat × Nat))).run P w = .ok ps w
  | [], _ => ⟨[], rfl, fun i f h => by simp at h, rfl⟩
  | f :: fs, h => by
    obtain ⟨ti, hti⟩ := h f (by simp)
    obtain ⟨ps, h1, h2, h3⟩ := mapM_places P w hE fs (fun g hg => h g (by simp [hg]))
    refine ⟨(f.offset, ti.size) :: ps, by simp [h1], fun i g hg ti' hti' => ?_, ?_⟩
    · cases i with
      | zero => simp at hg; subst hg; rw [hti] at hti'; injection hti' with e; subst e; rfl
      | succ i => simpa using h2 i g (by simpa using hg) ti' hti'
    · simp only [List.mapM_cons, Sem.run_bind, run_sizeOf' (hE _ _ hti), Result.andThen_ok, Sem.run_pure, h3]

theorem Rel.ofCRel {Z : Zone} {G : Ghost} {w : World} {cs : List AV} {vs : Array Value} (h : CRel Z G w cs vs) : Rel Z G w (.agg cs) (.agg vs) := .agg cs vs h.1 h.2

theorem fill_mono {place place' : Nat → Option (Nat × Nat)} : ∀ (ps : List (Nat × AV)) (cs : List AV), (∀ i r, place i = some r → place' i = some r) → ∀ r, fillAV place cs ps = some r → fillAV place' cs ps = some r
  | [], cs, _, r, h => h
  | (i, a) :: ps, cs, hp, r, h => by
    simp only [fillAV] at h ⊢
    cases he : place i with
    | none => rw [he] at h; cases h
    | some p =>
      rw [he] at h; rw [hp i p he]
      simp only at h ⊢
      split at h
      · rename_i hc; rw [if_pos hc]; exact fill_mono ps _ hp r h
      · cases h

theorem build_ok {Z : Zone} {G : Ghost} {w : World} (hE : ∀ t ti, E.ti t = some ti → TiOk P t ti) {t : TypeId} {ps : List (Nat × AV)} {qs : Array (Nat × Value)} {r : AV} (hl : ps.length = qs.toList.length)
    (hr : ∀ i (h1 : i < ps.length) (h2 : i < qs.toList.length), ps[i].1 = qs.toList[i].1 ∧ Rel Z G w ps[i].2 qs.toList[i].2) (h : buildAV E t ps = some r) : ∃ v, (Instr.build t qs).run P w = .ok v w ∧ Rel Z G w r v := by
  unfold buildAV at h
  split at h
  rotate_left
  · cases h
  rename_i ti ht
  have hT := hE _ _ ht
  obtain ⟨inf, hi, hs, hb, z, hz, hzr⟩ := hT.info
  have hzero : (zeroValue t).run P w = .ok z w := by simp [zeroValue, typeInfo, hi, hz]
  split at h
  · rename_i fs hd
    have hu := hT.desc
    rw [hd] at hu
    split at h
    rotate_left
    · cases h
    rename_i hc
    simp only [Bool.and_eq_true, List.all_eq_true] at hc
    obtain ⟨places, hp1, hp2, hp3⟩ := mapM_places P w hE fs.toList (fun f hf => by have := hc.1 f hf; exact Option.isSome_iff_exists.1 this)
    obtain ⟨cs', hfill, rfl⟩ := Option.map_eq_some_iff.1 h
    · have hfill' := fill_mono (place' := fun i => places.toArray[i]?) ps _ (fun i r he => by
        simp only [placeOf] at he ⊢
        cases hfd : fs[i]? with
        | none => rw [hfd] at he; cases he
        | some fd =>
          rw [hfd] at he
          simp only at he
          cases htf : E.ti fd.type with
          | none => rw [htf] at he; cases he
          | some tf =>
            rw [htf] at he; injection he with he; subst he
            simpa using hp2 i fd (by simpa using hfd) tf htf) _ hfill
      obtain ⟨vs', hv1, hv2⟩ := fill_ok (CRel.ofCells (.pure (hzr Z w)) hc.2) hl hr hfill'
      refine ⟨.agg vs', ?_, .ofCRel hv2⟩
      unfold Instr.build
      simp only [Sem.run_bind, hzero, run_underlying hu, Result.andThen_ok, Array.mapM_eq_mapM_toList, Sem.run_map, hp3, hv1, Sem.run_pure]
  · rename_i n e hd
    have hu := hT.desc
    rw [hd] at hu
    split at h
    · rename_i te hte
      split at h
      · rename_i hf
        obtain ⟨cs', hfill, rfl⟩ := Option.map_eq_some_iff.1 h
        · obtain ⟨vs', hv1, hv2⟩ := fill_ok (CRel.ofCells (.pure (hzr Z w)) hf) hl hr hfill
          refine ⟨.agg vs', ?_, .ofCRel hv2⟩
          unfold Instr.build
          simp only [Sem.run_bind, hzero, run_underlying hu, Result.andThen_ok, run_sizeOf' (hE _ _ hte), hv1, Sem.run_pure]
      · cases h
    · cases h
  · cases h
end Go.EV
/-
  Each operation of the model does what the evaluator says: slice literals, make, append.
-/
set_option linter.unusedSimpArgs false
set_option linter.unusedVariables false
namespace Go.EV
open Go.RowKit
variable {E : Env} {P : Program}

/-- Elements and the cells of a row: those of the elements stand at its head. -/
structure RowRel (Z : Zone) (G : Ghost) (w : World) (es : List AV) (sz : Nat) (cs : Array Value) : Prop where
  fits : ∀ i, i < es.length → (es.getD i .undef).fits sz = true
  size : es.length * sz ≤ cs.size
  rel : ∀ i o, i < es.length → o < sz → Rel Z G w ((es.getD i .undef).cells.getD o .undef) (cs.getD (i * sz + o) Go.undef)

theorem arr_getD (xs : Array Value) (k : Nat) : xs.toList.getD k Go.undef = xs.getD k Go.undef := by
  rw [Array.getD_eq_getD_getElem?, List.getD_eq_getElem?_getD, Array.getElem?_toList]
theorem list_getD (xs : List Value) (k : Nat) : xs.toArray.getD k Go.undef = xs.getD k Go.undef := by
  rw [Array.getD_eq_getD_getElem?, List.getD_eq_getElem?_getD, List.getElem?_toArray]

theorem mul_le_of_lt {i n sz : Nat} (h : i < n) : i * sz + sz ≤ n * sz := by
  have : (i + 1) * sz ≤ n * sz := Nat.mul_le_mul_right _ h
  rwa [Nat.add_mul, Nat.one_mul] at this

theorem RowRel.set {Z : Zone} {G : Ghost} {w : World} {es : List AV} {sz : Nat} {cs : Array Value} (h : RowRel Z G w es sz cs) {a : AV} {v : Value} {i : Nat} (ha : Rel Z G w a v) (hf : a.fits sz = true) (hi : i < es.length) :
    RowRel Z G w (es.set i a) sz ((cs.toList.take (i * sz) ++ v.cells.toList ++ cs.toList.drop (i * sz + v.cells.size)).toArray) := by
  obtain ⟨h1, h2, _⟩ := ha.cellsOf hf
  have hb := mul_le_of_lt (sz := sz) hi
  have hs := h.size
  refine ⟨fun j hj => ?_, ?_, fun j o hj ho => ?_⟩
  · rw [set_getD hi]; split
    · exact hf
    · exact h.fits j (by simpa using hj)
  · simp; omega
  · have e2 := splice_getD cs.toList v.cells.toList (i * sz) Go.undef (by simp; omega) (j * sz + o)
    simp only [Array.length_toList] at e2
    have hj' : j < es.length := by simpa using hj
    rw [list_getD, e2, arr_getD, arr_getD, set_getD hi]
    simp only [h1]
    have hz : 0 < sz := by omega
    rcases idx_cases (i := i) (i' := j) (o := 0) (o' := o) hz ho with ⟨c1, c2⟩ | c1 | ⟨c1, c2⟩
    · rw [if_neg (show ¬ j = i by omega), if_pos (show j * sz + o < i * sz by omega)]; exact h.rel j o hj' ho
    · subst c1
      rw [if_pos rfl, if_neg (show ¬ (j * sz + o < j * sz) by omega), if_pos (show j * sz + o < j * sz + sz by omega), show j * sz + o - j * sz = o by omega]
      exact h2 o ho
    · rw [if_neg (show ¬ j = i by omega), if_neg (show ¬ (j * sz + o < i * sz) by omega), if_neg (show ¬ (j * sz + o < i * sz + sz) by omega)]; exact h.rel j o hj' ho

theorem RowRel.zeros {Z : Zone} {G : Ghost} {w : World} {a : AV} {z : Value} {sz n m : Nat} (ha : Rel Z G w a z) (hf : a.fits sz = true) (hz : 0 < sz) (hn : n ≤ m) :
    RowRel Z G w (List.replicate n a) sz ((Array.range (m * sz)).map (z.cells[· % z.cells.size]!)) := by
  obtain ⟨h1, h2, _⟩ := ha.cellsOf hf
  have hg : ∀ i, i < n → (List.replicate n a).getD i .undef = a := by intro i hi; simp [List.getD_eq_getElem?_getD, hi]
  refine ⟨fun i hi => by rw [hg i (by simpa using hi)]; exact hf, by simp; exact Nat.mul_le_mul_right _ hn, fun i o hi ho => ?_⟩
  have hi' : i < n := by simpa using hi
  have hb := mul_le_of_lt (sz := sz) (show i < m by omega)
  rw [hg i hi']
  have hk : i * sz + o < m * sz := by omega
  have hmod : (i * sz + o) % sz = o := by rw [Nat.mul_comm, Nat.mul_add_mod]; exact Nat.mod_eq_of_lt ho
  have : ((Array.range (m * sz)).map (z.cells[· % z.cells.size]!)).getD (i * sz + o) Go.undef = z.cells.getD o Go.undef := by
    have ho' : o < z.cells.size := by omega
    simp [Array.getD, hk, h1, hmod, ho, getElem!_def, Array.getElem?_eq_getElem ho']
  rw [this]
  exact h2 o ho

theorem fillEls_ok {Z : Zone} {G : Ghost} {w : World} {sz : Nat} : ∀ {ps : List (Nat × AV)} {qs : List (Nat × Value)} {es es' : List AV} {vs : Array Value}, RowRel Z G w es sz vs → ps.length = qs.length →
    (∀ i (h1 : i < ps.length) (h2 : i < qs.length), ps[i].1 = qs[i].1 ∧ Rel Z G w ps[i].2 qs[i].2) → fillEls sz es ps = some es' →
      ∃ vs', Instr.fill (fun i => some (i * sz, sz)) vs qs = some vs' ∧ RowRel Z G w es' sz vs' ∧ vs'.size = vs.size ∧ es'.length = es.length
  | [], [], es, es', vs, h, _, _, he => by
    simp only [fillEls, Option.some.injEq] at he; subst he; exact ⟨vs, rfl, h, rfl, rfl⟩
  | [], _ :: _, _, _, _, _, hl, _, _ => by simp at hl
  | _ :: _, [], _, _, _, _, hl, _, _ => by simp at hl
  | (i, a) :: ps, (j, v) :: qs, es, es', vs, h, hl, hr, he => by
    obtain ⟨hij, ha⟩ := hr 0 (by simp) (by simp)
    simp only [List.getElem_cons_zero] at hij ha
    subst hij
    simp only [fillEls] at he
    simp only [Instr.fill]
    split at he
    · rename_i hc
      obtain ⟨h1, h2, _⟩ := ha.cellsOf hc.1
      have hb := mul_le_of_lt (sz := sz) hc.2
      have hs := h.size
      rw [if_neg (by simp [h1]; omega), fill_zip v (i * sz) vs (by omega)]
      obtain ⟨vs', e1, e2, e3, e4⟩ := fillEls_ok (h.set ha hc.1 hc.2) (by simpa using hl) (fun k h1 h2 => by
        have := hr (k + 1) (by simpa using h1) (by simpa using h2); simpa using this) he
      exact ⟨vs', e1, e2, by rw [e3]; simp; omega, by rw [e4]; simp⟩
    · cases he

theorem Rel.ms_new {Z : Zone} {G : Ghost} {w : World} {b g c cap sz : Nat} (hg : G.row b g = some (some c, cap)) (hc : g ≤ cap) : Rel Z G w (.ms b g 0 g) (.slice (some ⟨c, 0, none⟩) g cap) := by
  have := Rel.ms (Z := Z) (G := G) (w := w) b g 0 g (some c) cap (some ⟨c, 0, none⟩) hg (by omega) hc (fun _ => ⟨c, rfl, by simp⟩) (fun _ h => (nomatch h))
  simpa using this

theorem newRow_ok {base : Nat} {Z : Zone} {G : Ghost} {hp : Heap} {w : World} (H : HRel base Z G hp w) (t : TypeId) {es : List AV} {sz cap : Nat} {cs : Array Value} (h : RowRel Z G w es sz cs) (hs : cs.size = cap * sz) (hc : es.length ≤ cap) :
    OpPost base Z G (hp ++ [.row es sz 0 0]) w (.ms hp.length es.length 0 es.length) (.slice (some ⟨w.heap.size, 0, none⟩) es.length cap) (w.alloc (.cells cs t)) := by
  obtain ⟨H', E'⟩ := H.push (es := es) (sz := sz) (wg := 0) (cap := cap) (cs := cs) t h.fits hs hc h.rel (Nat.zero_le _)
  exact ⟨_, _, E', H', Rel.ms_new (sz := sz) (Ghost.put_same G _ _ _ _) hc⟩

theorem buildSlice_ok {base : Nat} {Z : Zone} {G : Ghost} {hp hp' : Heap} {w : World} (H : HRel base Z G hp w) (hE : ∀ t ti, E.ti t = some ti → TiOk P t ti) {t : TypeId} {len : Nat} {ps : List (Nat × AV)} {qs : Array (Nat × Value)} {r : AV} (hl : ps.length = qs.toList.length)
    (hr : ∀ i (h1 : i < ps.length) (h2 : i < qs.toList.length), ps[i].1 = qs.toList[i].1 ∧ Rel Z G w ps[i].2 qs.toList[i].2) (h : buildSliceAV E hp t len ps = some (r, hp')) :
    ∃ v w', (Instr.buildSlice t len qs).run P w = .ok v w' ∧ OpPost base Z G hp' w r v w' := by
  unfold buildSliceAV at h
  split at h
  rotate_left
  · cases h
  rename_i ti ht
  have hu := (hE _ _ ht).desc
  split at h
  rotate_left
  · cases h
  rename_i e hd
  rw [hd] at hu
  split at h
  rotate_left
  · cases h
  rename_i te hte
  split at h
  rotate_left
  · cases h
  rename_i hc
  obtain ⟨hc1, hc2, hc3⟩ := hc
  split at h
  rotate_left
  · cases h
  rename_i es hes
  injection h with h; injection h with h1 h2; subst h1; subst h2
  obtain ⟨inf, hi, hs, hb, z, hz, hzr⟩ := (hE _ _ hte).info
  have hzero : (zeroValue e).run P w = .ok z w := by simp [zeroValue, typeInfo, hi, hz]
  have hz0 := RowRel.zeros (n := len) (m := len) (.pure (hzr Z w) : Rel Z G w te.zero z) hc3 hc2 (Nat.le_refl _)
  obtain ⟨vs', e1, e2, e3, e4⟩ := fillEls_ok hz0 hl hr hes
  simp only [List.length_replicate] at e4
  have hsz : vs'.size = len * te.size := by rw [e3]; simp
  subst e4
  refine ⟨_, _, ?_, newRow_ok H e e2 hsz (Nat.le_refl _)⟩
  unfold Instr.buildSlice
  simp only [Sem.run_bind, run_underlying hu, Result.andThen_ok, run_sizeOf' (hE _ _ hte)]
  rw [if_neg (by omega)]
  by_cases h0 : es.length * te.size = 0
  · have : es.length = 0 := by
      rcases Nat.mul_eq_zero.1 h0 with h | h <;> omega
    have hnil : es = [] := List.length_eq_zero_iff.1 this
    subst hnil
    simp only [List.length_nil, Nat.zero_mul] at e1 ⊢
    have he : (Array.range 0).map (z.cells[· % z.cells.size]!) = #[] := by simp
    have he' : ∀ f : Nat → Value, (Array.range 0).map f = #[] := by simp
    rw [he] at e1
    simp [he', e1, newRow]
  · simp [h0, hzero, e1, newRow]

theorem makeSlice_ok {base : Nat} {Z : Zone} {G : Ghost} {hp hp' : Heap} {w : World} (H : HRel base Z G hp w) (hE : ∀ t ti, E.ti t = some ti → TiOk P t ti) {t : TypeId} {l c r : AV} {a b : Value} (hl : Rel Z G w l a) (hc : Rel Z G w c b)
    (h : makeSliceAV E hp t l c = some (r, hp')) : ∃ v w', (Instr.makeSlice t a b).run P w = .ok v w' ∧ OpPost base Z G hp' w r v w' := by
  unfold makeSliceAV at h
  split at h
  rotate_left
  · cases h
  rename_i ti n m ht hn hm
  obtain ⟨k1, rfl⟩ := natOf_ok hl hn
  obtain ⟨k2, rfl⟩ := natOf_ok hc hm
  have hu := (hE _ _ ht).desc
  split at h
  rotate_left
  · cases h
  rename_i e hd
  rw [hd] at hu
  split at h
  rotate_left
  · cases h
  rename_i te hte
  split at h
  rotate_left
  · cases h
  rename_i hcond
  obtain ⟨c1, c2, c3, c4, c5⟩ := hcond
  injection h with h; injection h with h1 h2; subst h1; subst h2
  obtain ⟨inf, hi, hs, hb, z, hz, hzr⟩ := (hE _ _ hte).info
  have hzero : (zeroValue e).run P w = .ok z w := by simp [zeroValue, typeInfo, hi, hz]
  have hz0 := RowRel.zeros (n := n) (m := m) (.pure (hzr Z w) : Rel Z G w te.zero z) c5 c4 c1
  have hw : ∀ x : Nat, x ≤ 1099511627776 → IntKind.i64.wrap (x : Int) = x := by
    intro x hx; exact IntWalk.i64_in _ (by omega)
  have hpost := newRow_ok (cap := m) H e hz0 (by simp) (by simpa using c1)
  simp only [List.length_replicate] at hpost
  refine ⟨_, _, ?_, hpost⟩
  unfold Instr.makeSlice
  simp only [Sem.run_bind, run_underlying hu, Result.andThen_ok, asInt, asIntOf, Sem.run_pure, typeInfo, run_program, hi, hb, hw n (by omega), hw m c3]
  have hbm : ¬ ((te.bytes : Int) * (m : Int) > 2 ^ 48) := by
    have : ((m * te.bytes : Nat) : Int) ≤ 1099511627776 := by omega
    rw [Int.natCast_mul, Int.mul_comm] at this
    omega
  have hcnd : (((m : Int) < 0 || (te.bytes : Int) * (m : Int) > 2 ^ 48) || (n : Int) < 0 || (n : Int) > (m : Int)) = false := by
    have e1 : ¬ ((m : Int) < 0) := by omega
    have e2 : ¬ ((n : Int) < 0) := by omega
    have e3 : ¬ ((n : Int) > (m : Int)) := by omega
    simp only [decide_eq_false e1, decide_eq_false e2, decide_eq_false e3, decide_eq_false hbm, Bool.or_false]
  rw [if_neg (by rw [hcnd]; exact Bool.false_ne_true)]
  simp only [Sem.run_bind, run_askRoom, Result.andThen_ok, Int.toNat_natCast, run_sizeOf' (hE _ _ hte)]
  by_cases h0 : m * te.size = 0
  · have hm0 : m = 0 := by
      rcases Nat.mul_eq_zero.1 h0 with h | h <;> omega
    subst hm0
    have he' : ∀ f : Nat → Value, (Array.range 0).map f = #[] := by simp
    simp [he', newRow]
  · simp [h0, hzero, newRow]
end Go.EV
