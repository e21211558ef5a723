/-
  How own memory grows and is written.
-/
import Derived.Test.YtkdjkbgcebodgaaDoorEvD
set_option linter.unusedSimpArgs false
set_option linter.unusedVariables false
namespace Go.EV
open Go.RowKit
variable {E : Env} {P : Program}

def Ghost.put (G : Ghost) (b g : Nat) (r : Option Nat × Nat) (sz : Nat) : Ghost :=
  ⟨fun b' g' => if b' = b ∧ g' = g then some r else G.row b' g', fun b' => if b' = b then sz else G.sz b', G.pend⟩
theorem Ghost.put_same (G : Ghost) (b g : Nat) (r : Option Nat × Nat) (sz : Nat) : (G.put b g r sz).row b g = some r := by simp [Ghost.put]
theorem Ghost.put_row {G : Ghost} {b g : Nat} {r : Option Nat × Nat} {sz b' g' : Nat} {r' : Option Nat × Nat} (h : (G.put b g r sz).row b' g' = some r') : (b' = b ∧ g' = g ∧ r' = r) ∨ G.row b' g' = some r' := by
  simp only [Ghost.put] at h
  split at h
  · rename_i e; injection h with h; exact .inl ⟨e.1, e.2, h.symm⟩
  · exact .inr h
theorem Ghost.put_le {G : Ghost} {b g : Nat} {r : Option Nat × Nat} {sz : Nat} (hn : G.row b g = none) (hs : ∀ g' r', G.row b g' = some r' → G.sz b = sz) : G.le (G.put b g r sz) := by
  refine ⟨fun b' g' r' h => ?_, fun b' g' r' h => ?_, fun _ _ h => h⟩
  · simp only [Ghost.put]
    split
    · rename_i e; rw [e.1, e.2, hn] at h; cases h
    · exact h
  · simp only [Ghost.put]
    split
    · rename_i e; subst e; exact (hs _ _ h).symm
    · rfl

theorem get_append {hp : Heap} {x y : HB} {b : Nat} (h : (hp ++ [x])[b]? = some y) : (b < hp.length ∧ hp[b]? = some y) ∨ (b = hp.length ∧ y = x) := by
  rcases Nat.lt_or_ge b hp.length with hl | hl
  · rw [List.getElem?_append_left hl] at h; exact .inl ⟨hl, h⟩
  · rw [List.getElem?_append_right hl] at h
    by_cases e : b = hp.length
    · subst e; simp at h; exact .inr ⟨rfl, h.symm⟩
    · have : b - hp.length ≠ 0 := by omega
      have : ([x] : List HB)[b - hp.length]? = none := by simp; omega
      rw [this] at h; cases h
theorem get_set {hp : Heap} {x y : HB} {b k : Nat} (hk : k < hp.length) (h : (hp.set k x)[b]? = some y) : (b ≠ k ∧ hp[b]? = some y) ∨ (b = k ∧ y = x) := by
  rw [List.getElem?_set] at h
  split at h
  · rename_i e; subst e; simp [hk] at h; exact .inr ⟨rfl, h.symm⟩
  · rename_i e; exact .inl ⟨fun h => e h.symm, h⟩
theorem lt_of_get {hp : Heap} {b : Nat} {x : HB} (h : hp[b]? = some x) : b < hp.length := by
  rcases Nat.lt_or_ge b hp.length with hl | hl
  · exact hl
  · rw [List.getElem?_eq_none hl] at h; cases h

/-- Variables that are still to be made, when a row grows at the end, or is put in another's place. -/
theorem pend_append {G : Ghost} {hp : Heap} {x : HB} {b0 g0 : Nat} {r : Option Nat × Nat} {s : Nat} (h : ∀ (b : Nat) (z : AV) (sz : Nat), G.pend b = some (z, sz) → hp[b]? = some (HB.row [z] sz 0 0) ∧ ∀ g, G.row b g = none) (hb : b0 = hp.length) :
    ∀ (b : Nat) (z : AV) (sz : Nat), (G.put b0 g0 r s).pend b = some (z, sz) → (hp ++ [x])[b]? = some (HB.row [z] sz 0 0) ∧ ∀ g, (G.put b0 g0 r s).row b g = none := by
  intro b z sz hp'
  obtain ⟨h1, h2⟩ := h b z sz hp'
  have hl := lt_of_get h1
  refine ⟨by rw [List.getElem?_append_left hl]; exact h1, fun g => ?_⟩
  simp only [Ghost.put]
  rw [if_neg (by omega)]
  exact h2 g
theorem pend_put {G : Ghost} {hp : Heap} {x : HB} {b0 g0 g1 : Nat} {r r1 : Option Nat × Nat} {s : Nat} (h : ∀ (b : Nat) (z : AV) (sz : Nat), G.pend b = some (z, sz) → hp[b]? = some (HB.row [z] sz 0 0) ∧ ∀ g, G.row b g = none) (hb : G.row b0 g1 = some r1) :
    ∀ (b : Nat) (z : AV) (sz : Nat), (G.put b0 g0 r s).pend b = some (z, sz) → (hp.set b0 x)[b]? = some (HB.row [z] sz 0 0) ∧ ∀ g, (G.put b0 g0 r s).row b g = none := by
  intro b z sz hp'
  obtain ⟨h1, h2⟩ := h b z sz hp'
  have hne : b0 ≠ b := by intro e; subst e; rw [h2] at hb; cases hb
  refine ⟨by rw [List.getElem?_set_ne hne]; exact h1, fun g => ?_⟩
  simp only [Ghost.put]
  rw [if_neg (fun e => hne e.1.symm)]
  exact h2 g
theorem pend_set {G : Ghost} {hp : Heap} {x : HB} {b0 g1 : Nat} {r1 : Option Nat × Nat} (h : ∀ (b : Nat) (z : AV) (sz : Nat), G.pend b = some (z, sz) → hp[b]? = some (HB.row [z] sz 0 0) ∧ ∀ g, G.row b g = none) (hb : G.row b0 g1 = some r1) :
    ∀ (b : Nat) (z : AV) (sz : Nat), G.pend b = some (z, sz) → (hp.set b0 x)[b]? = some (HB.row [z] sz 0 0) ∧ ∀ g, G.row b g = none := by
  intro b z sz hp'
  obtain ⟨h1, h2⟩ := h b z sz hp'
  have hne : b0 ≠ b := by intro e; subst e; rw [h2] at hb; cases hb
  exact ⟨by rw [List.getElem?_set_ne hne]; exact h1, h2⟩

/-- What a world's change leaves of own memory: the zone's cells and each own block as they were. -/
theorem HRel.carry {base : Nat} {Z : Zone} {G : Ghost} {hp : Heap} {w w' : World} (H : HRel base Z G hp w) (hs : w.heap.size ≤ w'.heap.size) (hc : ∀ c j, Z c j → w'.cell? ⟨c, j, none⟩ = w.cell? ⟨c, j, none⟩)
    (hb : ∀ b g c cap, G.row b g = some (some c, cap) → w'.heap[c]? = w.heap[c]?) : HRel base Z G hp w' := by
  refine ⟨Nat.le_trans H.lo hs, fun c j h => Nat.lt_of_lt_of_le (H.zone c j h) hs, H.dom, fun b es sz wg com he => ?_, fun b s pos he g oc cap hg => ?_, H.excl, H.pend, H.wgle⟩
  · obtain ⟨hf, hr⟩ := H.row b es sz wg com he
    refine ⟨hf, fun g oc cap hg => ?_⟩
    obtain ⟨h1, h2, h3, h4, h5⟩ := hr g oc cap hg
    refine ⟨h1, h2, h3, h4, fun c hoc => ?_⟩
    obtain ⟨h6, h7, cs, t, h8, h9, h10⟩ := h5 c hoc
    subst hoc
    exact ⟨h6, h7, cs, t, (hb b g c cap hg).trans h8, h9, fun hw i o hi ho => (h10 hw i o hi ho).mono (fun _ _ h => h) (.refl G) hc⟩
  · obtain ⟨hg0, c, hoc, h1, h2⟩ := H.sit b s pos he g oc cap hg
    subst hoc
    exact ⟨hg0, c, rfl, h1, (hb b g c cap hg).trans h2⟩

theorem HRel.drew {base : Nat} {Z : Zone} {G : Ghost} {hp : Heap} {w : World} (H : HRel base Z G hp w) : HRel base Z G hp w.drew :=
  H.carry (Nat.le_refl _) (fun _ _ _ => rfl) (fun _ _ _ _ _ => rfl)
theorem Ext.drew (base : Nat) (Z : Zone) (G : Ghost) (w : World) : Ext base Z G w Z G w.drew :=
  ⟨fun _ _ h => h, .refl G, (Below.refl _ _).drew, fun _ _ _ => rfl, fun _ _ h => .inl h⟩

theorem alloc_heap (w : World) (o : Obj) (k : Nat) : (w.alloc o).heap[k]? = if k = w.heap.size then some o else w.heap[k]? := by
  show (w.heap.push o)[k]? = _
  rw [Array.getElem?_push]
theorem HRel.old {base : Nat} {Z : Zone} {G : Ghost} {hp : Heap} {w : World} (H : HRel base Z G hp w) {b g c cap : Nat} (h : G.row b g = some (some c, cap)) : c < w.heap.size := by
  have hb := H.dom b g _ h
  obtain ⟨x, hx⟩ : ∃ x, hp[b]? = some x := ⟨hp[b], List.getElem?_eq_getElem hb⟩
  have key : ∃ o, w.heap[c]? = some o := by
    cases x with
    | row es sz wg com =>
      obtain ⟨_, _, cs, t, h8, _⟩ := ((H.row b es sz wg com hx).2 g _ cap h).2.2.2.2 c rfl
      exact ⟨_, h8⟩
    | sit s pos =>
      obtain ⟨_, c', e, _, h2⟩ := H.sit b s pos hx g _ cap h
      injection e with e; subst e
      exact ⟨_, h2⟩
  obtain ⟨o, ho⟩ := key
  rcases Nat.lt_or_ge c w.heap.size with hl | hl
  · exact hl
  · rw [Array.getElem?_eq_none hl] at ho; cases ho

/-- A block more that nobody owns. -/
theorem HRel.alloc {base : Nat} {Z : Zone} {G : Ghost} {hp : Heap} {w : World} (H : HRel base Z G hp w) (o : Obj) : HRel base Z G hp (w.alloc o) := by
  refine H.carry (by simp) (fun c j h => World.cell?_alloc_lt _ _ _ (H.zone c j h)) (fun b g c cap h => ?_)
  rw [alloc_heap, if_neg (Nat.ne_of_lt (H.old h))]
theorem Ext.alloc {base : Nat} {Z : Zone} {G : Ghost} {hp : Heap} {w : World} (H : HRel base Z G hp w) (o : Obj) : Ext base Z G w Z G (w.alloc o) :=
  ⟨fun _ _ h => h, .refl G, (Below.refl _ _).alloc H.lo _, fun c j h => World.cell?_alloc_lt _ _ _ (H.zone c j h), fun _ _ h => .inl h⟩

/-- A new own row in a new block. -/
theorem HRel.push {base : Nat} {Z : Zone} {G : Ghost} {hp : Heap} {w : World} (H : HRel base Z G hp w) {es : List AV} {sz wg cap : Nat} {cs : Array Value} (t : TypeId)
    (hf : ∀ i, i < es.length → (es.getD i .undef).fits sz = true) (hs : cs.size = cap * sz) (hc : es.length ≤ cap)
    (hr : ∀ i o, i < es.length → o < sz → Rel Z G w ((es.getD i .undef).cells.getD o .undef) (cs.getD (i * sz + o) Go.undef)) (hwg : wg ≤ es.length) :
    HRel base Z (G.put hp.length es.length (some w.heap.size, cap) sz) (hp ++ [.row es sz wg 0]) (w.alloc (.cells cs t)) ∧
      Ext base Z G w Z (G.put hp.length es.length (some w.heap.size, cap) sz) (w.alloc (.cells cs t)) := by
  have hnone : ∀ g, G.row hp.length g = none := by
    intro g
    cases h : G.row hp.length g with
    | none => rfl
    | some r => exact absurd (H.dom _ _ _ h) (Nat.lt_irrefl _)
  have hle : G.le (G.put hp.length es.length (some w.heap.size, cap) sz) := Ghost.put_le (hnone _) (fun g r h => by rw [hnone] at h; cases h)
  have H1 := H.alloc (.cells cs t)
  have E1 := Ext.alloc H (.cells cs t)
  have E2 : Ext base Z G w Z (G.put hp.length es.length (some w.heap.size, cap) sz) (w.alloc (.cells cs t)) := ⟨E1.zsub, hle, E1.below, E1.keep, E1.znew⟩
  refine ⟨⟨H1.lo, H1.zone, fun b g r h => ?_, fun b es' sz' wg' com' he => ?_, fun b s pos he g oc cap' hg => ?_, fun b b' g g' c cap1 cap2 h1 h2 => ?_, pend_append H.pend rfl, fun b es' sz' wg' com' he => ?_⟩, E2⟩
  · simp only [List.length_append, List.length_singleton]
    rcases Ghost.put_row h with ⟨rfl, _, _⟩ | h
    · omega
    · have := H.dom _ _ _ h; omega
  · rcases get_append he with ⟨hl, he2⟩ | ⟨rfl, he2⟩
    · obtain ⟨hf', hr'⟩ := H1.row b es' sz' wg' com' he2
      refine ⟨hf', fun g oc cap' hg => ?_⟩
      have hg : G.row b g = some (oc, cap') := by
        rcases Ghost.put_row hg with ⟨rfl, _, _⟩ | h
        · omega
        · exact h
      obtain ⟨h1, h2, h3, h4, h5⟩ := hr' g oc cap' hg
      refine ⟨(hle.sz _ _ _ hg).trans h1, h2, h3, h4, fun c hoc => ?_⟩
      obtain ⟨h6, h7, cs', t', h8, h9, h10⟩ := h5 c hoc
      exact ⟨h6, h7, cs', t', h8, h9, fun hw i o hi ho => (h10 hw i o hi ho).mono (fun _ _ h => h) hle (fun _ _ _ => rfl)⟩
    · injection he2 with e1 e2 e3 e4
      subst e1; subst e2; subst e3; subst e4
      refine ⟨hf, fun g oc cap' hg => ?_⟩
      rcases Ghost.put_row hg with ⟨_, rfl, hrr⟩ | hg
      · injection hrr with e1 e2
        subst e1; subst e2
        refine ⟨by simp [Ghost.put], Nat.le_refl _, hc, fun h => (nomatch h), fun c hoc => ?_⟩
        injection hoc with hoc
        subst hoc
        refine ⟨H.lo, fun j hz => absurd (H.zone _ _ hz) (Nat.lt_irrefl _), cs, t, by rw [alloc_heap, if_pos rfl], hs, fun _ i o hi ho => (hr i o hi ho).ext E2⟩
      · rw [hnone] at hg; cases hg
  · rcases get_append he with ⟨hl, he2⟩ | ⟨_, he2⟩
    · have hg : G.row b g = some (oc, cap') := by
        rcases Ghost.put_row hg with ⟨rfl, _, _⟩ | h
        · omega
        · exact h
      exact H1.sit b s pos he2 g oc cap' hg
    · cases he2
  · rcases Ghost.put_row h1 with ⟨rfl, _, e1⟩ | h1 <;> rcases Ghost.put_row h2 with ⟨rfl, _, e2⟩ | h2
    · rfl
    · injection e1 with e1 _; injection e1 with e1; subst e1; exact absurd (H.old h2) (Nat.lt_irrefl _)
    · injection e2 with e2 _; injection e2 with e2; subst e2; exact absurd (H.old h1) (Nat.lt_irrefl _)
    · exact H.excl _ _ _ _ _ _ _ h1 h2
  · rcases get_append he with ⟨hl, he2⟩ | ⟨rfl, he2⟩
    · exact H.wgle _ _ _ _ _ he2
    · injection he2 with e1 e2 e3 e4
      subst e1; subst e3; exact hwg

/-- A new iterator over a string. -/
theorem HRel.pushSit {base : Nat} {Z : Zone} {G : Ghost} {hp : Heap} {w : World} (H : HRel base Z G hp w) (s : List UInt8) (pos : Nat) :
    HRel base Z (G.put hp.length 0 (some w.heap.size, 0) 0) (hp ++ [.sit s pos]) (w.alloc (.stringIter ⟨s.toArray⟩ pos)) ∧
      Ext base Z G w Z (G.put hp.length 0 (some w.heap.size, 0) 0) (w.alloc (.stringIter ⟨s.toArray⟩ pos)) := by
  have hnone : ∀ g, G.row hp.length g = none := by
    intro g
    cases h : G.row hp.length g with
    | none => rfl
    | some r => exact absurd (H.dom _ _ _ h) (Nat.lt_irrefl _)
  have hle : G.le (G.put hp.length 0 (some w.heap.size, 0) 0) := Ghost.put_le (hnone _) (fun g r h => by rw [hnone] at h; cases h)
  have H1 := H.alloc (.stringIter ⟨s.toArray⟩ pos)
  have E1 := Ext.alloc H (.stringIter ⟨s.toArray⟩ pos)
  have E2 : Ext base Z G w Z (G.put hp.length 0 (some w.heap.size, 0) 0) (w.alloc (.stringIter ⟨s.toArray⟩ pos)) := ⟨E1.zsub, hle, E1.below, E1.keep, E1.znew⟩
  refine ⟨⟨H1.lo, H1.zone, fun b g r h => ?_, fun b es' sz' wg' com' he => ?_, fun b s' pos' he g oc cap' hg => ?_, fun b b' g g' c cap1 cap2 h1 h2 => ?_, pend_append H.pend rfl, fun b es' sz' wg' com' he => ?_⟩, E2⟩
  · simp only [List.length_append, List.length_singleton]
    rcases Ghost.put_row h with ⟨rfl, _, _⟩ | h
    · omega
    · have := H.dom _ _ _ h; omega
  · rcases get_append he with ⟨hl, he2⟩ | ⟨rfl, he2⟩
    · obtain ⟨hf', hr'⟩ := H1.row b es' sz' wg' com' he2
      refine ⟨hf', fun g oc cap' hg => ?_⟩
      have hg : G.row b g = some (oc, cap') := by
        rcases Ghost.put_row hg with ⟨rfl, _, _⟩ | h
        · omega
        · exact h
      obtain ⟨h1, h2, h3, h4, h5⟩ := hr' g oc cap' hg
      refine ⟨(hle.sz _ _ _ hg).trans h1, h2, h3, h4, fun c hoc => ?_⟩
      obtain ⟨h6, h7, cs', t', h8, h9, h10⟩ := h5 c hoc
      exact ⟨h6, h7, cs', t', h8, h9, fun hw i o hi ho => (h10 hw i o hi ho).mono (fun _ _ h => h) hle (fun _ _ _ => rfl)⟩
    · cases he2
  · rcases get_append he with ⟨hl, he2⟩ | ⟨rfl, he2⟩
    · have hg : G.row b g = some (oc, cap') := by
        rcases Ghost.put_row hg with ⟨rfl, _, _⟩ | h
        · omega
        · exact h
      exact H1.sit b s' pos' he2 g oc cap' hg
    · injection he2 with e1 e2
      subst e1; subst e2
      rcases Ghost.put_row hg with ⟨_, rfl, hrr⟩ | hg
      · injection hrr with e1 e2
        subst e1
        exact ⟨rfl, _, rfl, H.lo, by rw [alloc_heap, if_pos rfl]⟩
      · rw [hnone] at hg; cases hg
  · rcases Ghost.put_row h1 with ⟨rfl, _, e1⟩ | h1 <;> rcases Ghost.put_row h2 with ⟨rfl, _, e2⟩ | h2
    · rfl
    · injection e1 with e1 _; injection e1 with e1; subst e1; exact absurd (H.old h2) (Nat.lt_irrefl _)
    · injection e2 with e2 _; injection e2 with e2; subst e2; exact absurd (H.old h1) (Nat.lt_irrefl _)
    · exact H.excl _ _ _ _ _ _ _ h1 h2
  · rcases get_append he with ⟨hl, he2⟩ | ⟨rfl, he2⟩
    · exact H.wgle _ _ _ _ _ he2
    · cases he2
end Go.EV
