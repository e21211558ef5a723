/-
  Each operation of the model does what the evaluator says: append; ranging over a string.
-/
import Derived.Test.YtkdjkbgcebodgaaDoorEvP
set_option linter.unusedSimpArgs false
set_option linter.unusedVariables false
namespace Go.EV
open Go.RowKit
variable {E : Env} {P : Program}

/-- The cells of a slice's first elements. -/
theorem firstCells_at {Z : Zone} {G : Ghost} {w : World} {xs : List AV} {size c b : Nat} {V : Nat → Nat → Value} (hf : ∀ i, i < xs.length → (xs.getD i .undef).fits size = true)
    (hr : ∀ i o, i < xs.length → o < size → w.cell? ⟨c, b + (i * size + o), none⟩ = some (V i o)) (hv : ∀ i o, i < xs.length → o < size → Rel Z G w ((xs.getD i .undef).cells.getD o .undef) (V i o)) :
    ∃ arr, (loadCells ⟨c, b, none⟩ (xs.length * size)).run P w = .ok arr w ∧ arr.size = xs.length * size ∧ RowRel Z G w xs size arr := by
  by_cases hs : size = 0
  · subst hs
    refine ⟨#[], by simp [loadCells, loadCellsFrom], by simp, hf, by simp, fun i o _ ho => by omega⟩
  have hcell : ∀ j, j < xs.length * size → w.cell? ((⟨c, b, none⟩ : Addr).add j) = some (V (j / size) (j % size)) := by
    intro j hj
    have h1 : j / size < xs.length := Nat.div_lt_of_lt_mul (by rwa [Nat.mul_comm])
    have h2 : j % size < size := Nat.mod_lt _ (by omega)
    have h3 : j / size * size + j % size = j := by rw [Nat.mul_comm]; exact Nat.div_add_mod j size
    rw [addr_add, ← hr _ _ h1 h2, h3]
  have hl := run_loadCells (P := P) w ⟨c, b, none⟩ (xs.length * size) (fun j => V (j / size) (j % size)) hcell
  refine ⟨_, hl, by simp, hf, by simp, fun i o hi ho => ?_⟩
  have hb := mul_le_of_lt (sz := size) hi
  have hk : i * size + o < xs.length * size := by omega
  have h1 : (i * size + o) / size = i := by
    rw [Nat.mul_comm, Nat.mul_add_div (by omega), Nat.div_eq_of_lt ho]; omega
  have h2 : (i * size + o) % size = o := by rw [Nat.mul_comm, Nat.mul_add_mod]; exact Nat.mod_eq_of_lt ho
  have : (((List.range (xs.length * size)).map fun j => V (j / size) (j % size)).toArray).getD (i * size + o) Go.undef = V i o := by
    simp [Array.getD, hk, h1, h2]
  rw [this]
  exact hv i o hi ho

theorem content_ok {base : Nat} {Z : Zone} {G : Ghost} {hp : Heap} {w : World} (H : HRel base Z G hp w) {size : Nat} {x : AV} {v : Value} {xs : List AV} (hx : Rel Z G w x v) (h : content hp size x = some xs) :
    (Builtin.lenOf v).run P w = .ok xs.length w ∧ ∃ arr, (Builtin.firstCells size xs.length v).run P w = .ok arr w ∧ arr.size = xs.length * size ∧ RowRel Z G w xs size arr := by
  have empty : ∀ a cap, v = .slice a 0 cap → xs = [] → (Builtin.lenOf v).run P w = .ok xs.length w ∧ ∃ arr, (Builtin.firstCells size xs.length v).run P w = .ok arr w ∧ arr.size = xs.length * size ∧ RowRel Z G w xs size arr := by
    rintro a cap rfl rfl
    refine ⟨rfl, #[], ?_, by simp, fun i hi => by simp at hi, by simp, fun i o hi _ => by simp at hi⟩
    cases a <;> simp [Builtin.firstCells, loadCells, loadCellsFrom]
  unfold content at h
  split at h
  · injection h with h; subst h; cases hx.nils_inv; exact empty _ _ rfl rfl
  · injection h with h; subst h; obtain ⟨a, rfl⟩ := hx.z0_inv; exact empty _ _ rfl rfl
  · rename_i es
    split at h
    · rename_i hsz
      injection h with h; subst h
      cases hx with
      | pure hx =>
        cases hx with
        | sl0 a cap => exact empty _ _ rfl rfl
        | sl _ sz c off cap V hc hz hr hv =>
          refine ⟨rfl, ?_⟩
          by_cases hne : es.length = 0
          · have : es = [] := List.length_eq_zero_iff.1 hne
            subst this
            exact (empty _ _ rfl rfl).2
          · have hs : sz = size := by rw [← sized_get hsz (show 0 < es.length by omega), fits_len (hz 0 (by omega))]
            subst hs
            have := firstCells_at (P := P) (Z := Z) (G := G) (w := w) (xs := es) (size := sz) (c := c) (b := off) (V := V) hz (fun i o hi ho => (hr i o hi ho).1) (fun i o hi ho => .pure (hv i o hi ho))
            simpa [Builtin.firstCells] using this
    · cases h
  · rename_i b g off len
    split at h
    · rename_i es sz wg com hb
      split at h
      · rename_i hc
        obtain ⟨hwg, hsz⟩ := hc
        subst hsz
        injection h with h; subst h
        obtain ⟨oc, cap, a, rfl, hg, h1, h2, ha, _⟩ := hx.ms_inv
        obtain ⟨hf, hrow⟩ := H.row b es sz wg com hb
        obtain ⟨hG, hge, _, _, _⟩ := hrow g _ cap hg
        have hlen : ((es.drop off).take len).length = len := by simp; omega
        refine ⟨by rw [hlen]; rfl, ?_⟩
        by_cases h0 : len = 0
        · subst h0
          exact (empty _ _ rfl (by simp)).2
        · obtain ⟨c, rfl, rfl⟩ := ha (by omega)
          have hall : ∀ i, i < len → ((es.drop off).take len).getD i .undef = es.getD (off + i) .undef := by
            intro i hi
            simp only [List.getD_eq_getElem?_getD, List.getElem?_take, List.getElem?_drop]
            rw [if_pos hi]
          obtain ⟨_, _, _, _, _, cs, t, hh, hcs, _⟩ := row_cells H hb hg hwg (i := off) (by omega)
          have key := fun i (hi : i < len) => row_cells H hb hg hwg (i := off + i) (by omega)
          have := firstCells_at (P := P) (Z := Z) (G := G) (w := w) (xs := (es.drop off).take len) (size := sz) (c := c) (b := off * sz) (V := fun i o => cs.getD ((off + i) * sz + o) Go.undef)
            (fun i hi => by rw [hall i (by omega)]; exact hf _ (by omega))
            (fun i o hi ho => by
              obtain ⟨_, _, _, _, _, cs', t', hh', _, hcell, _⟩ := key i (by omega)
              rw [hh] at hh'; injection hh' with e; injection e with e1 e2; subst e1
              have := hcell o ho
              rwa [Nat.add_mul, Nat.add_assoc] at this ⊢)
            (fun i o hi ho => by
              obtain ⟨_, _, _, _, _, cs', t', hh', _, _, hrel⟩ := key i (by omega)
              rw [hh] at hh'; injection hh' with e; injection e with e1 e2; subst e1
              rw [hall i (by omega)]
              exact hrel o ho)
          rw [hG]
          simpa [Builtin.firstCells, hlen] using this
      · cases h
    · cases h
  · cases h

theorem growBy_le (n : Nat) : ∀ (k c : Nat), c ≤ n → Builtin.growBy n k c ≤ n + (n + 768) / 4
  | 0, c, h => by simp only [Builtin.growBy]; omega
  | k + 1, c, h => by
    simp only [Builtin.growBy]
    split
    · omega
    · rename_i hc
      by_cases h2 : c + (c + 768) / 4 ≤ n
      · exact growBy_le n k _ h2
      · have : ∀ k, Builtin.growBy n k (c + (c + 768) / 4) = c + (c + 768) / 4 := by
          intro k; cases k with
          | zero => rfl
          | succ k => simp only [Builtin.growBy]; rw [if_pos (by omega)]
        rw [this]; omega
theorem nextslicecap_le (n c : Nat) (h : c < n) : Builtin.nextslicecap n c ≤ 2 * n + 768 := by
  unfold Builtin.nextslicecap
  split
  · omega
  · split
    · omega
    · have := growBy_le n 4 c (by omega); omega

theorem RowRel.append {Z : Zone} {G : Ghost} {w : World} {es xs : List AV} {sz : Nat} {cs ds : Array Value} (h1 : RowRel Z G w es sz cs) (hs : cs.size = es.length * sz) (h2 : RowRel Z G w xs sz ds) (rest : Array Value) : RowRel Z G w (es ++ xs) sz (cs ++ ds ++ rest) := by
  have get : ∀ i, (es ++ xs).getD i .undef = if i < es.length then es.getD i .undef else xs.getD (i - es.length) .undef := by
    intro i
    simp only [List.getD_eq_getElem?_getD]
    split
    · rename_i h; rw [List.getElem?_append_left h]
    · rename_i h; rw [List.getElem?_append_right (by omega)]
  have h2s := h2.size
  refine ⟨fun i hi => ?_, ?_, fun i o hi ho => ?_⟩
  · rw [get]; split
    · rename_i h; exact h1.fits i h
    · rename_i h; exact h2.fits _ (by simp at hi; omega)
  · simp only [List.length_append, Array.size_append, Nat.add_mul]; omega
  · simp only [List.length_append] at hi
    rw [get]
    by_cases h : i < es.length
    · rw [if_pos h]
      have hb := mul_le_of_lt (sz := sz) h
      have : (cs ++ ds ++ rest).getD (i * sz + o) Go.undef = cs.getD (i * sz + o) Go.undef := by
        rw [Array.getD_eq_getD_getElem?, Array.getD_eq_getD_getElem?, Array.append_assoc, Array.getElem?_append_left (by omega)]
      rw [this]; exact h1.rel i o h ho
    · rw [if_neg h]
      have hb := mul_le_of_lt (sz := sz) (show i - es.length < xs.length by omega)
      have e : i * sz = es.length * sz + (i - es.length) * sz := by rw [← Nat.add_mul]; congr 1; omega
      have : (cs ++ ds ++ rest).getD (i * sz + o) Go.undef = ds.getD ((i - es.length) * sz + o) Go.undef := by
        rw [Array.getD_eq_getD_getElem?, Array.getD_eq_getD_getElem?, Array.append_assoc, Array.getElem?_append_right (by omega), Array.getElem?_append_left (by omega)]
        congr 2; omega
      rw [this]; exact h2.rel _ o (by omega) ho

theorem append_getD (es xs : List AV) (i : Nat) : (es ++ xs).getD i .undef = if i < es.length then es.getD i .undef else xs.getD (i - es.length) .undef := by
  simp only [List.getD_eq_getElem?_getD]
  split
  · rename_i h; rw [List.getElem?_append_left h]
  · rename_i h; rw [List.getElem?_append_right (by omega)]

/-- An own row gets longer, in a new block. -/
theorem HRel.growNew {base : Nat} {Z : Zone} {G : Ghost} {hp : Heap} {w : World} (H : HRel base Z G hp w) {b : Nat} {es xs : List AV} {sz wg com cap : Nat} {cs : Array Value} (t : TypeId) (hb : hp[b]? = some (.row es sz wg com)) (hx : 0 < xs.length)
    {g1 : Nat} {r1 : Option Nat × Nat} (hgr : G.row b g1 = some r1) (hG : ∀ g r, G.row b g = some r → G.sz b = sz) (h : RowRel Z G w (es ++ xs) sz cs) (hs : cs.size = cap * sz) (hc : (es ++ xs).length ≤ cap) :
    HRel base Z (G.put b (es ++ xs).length (some w.heap.size, cap) sz) (hp.set b (.row (es ++ xs) sz wg com)) (w.alloc (.cells cs t)) ∧ Ext base Z G w Z (G.put b (es ++ xs).length (some w.heap.size, cap) sz) (w.alloc (.cells cs t)) := by
  have hbl := lt_of_get hb
  have hwg := H.wgle _ _ _ _ _ hb
  have hlx : (es ++ xs).length = es.length + xs.length := by simp
  have hnone : G.row b (es ++ xs).length = none := by
    cases hr : G.row b (es ++ xs).length with
    | none => rfl
    | some r => have := ((H.row b es sz wg com hb).2 _ r.1 r.2 hr).2.1; omega
  have hle : G.le (G.put b (es ++ xs).length (some w.heap.size, cap) sz) := Ghost.put_le hnone (fun g r h => hG g r h)
  have H1 := H.alloc (.cells cs t)
  have E1 := Ext.alloc H (.cells cs t)
  have E2 : Ext base Z G w Z (G.put b (es ++ xs).length (some w.heap.size, cap) sz) (w.alloc (.cells cs t)) := ⟨E1.zsub, hle, E1.below, E1.keep, E1.znew⟩
  refine ⟨⟨H1.lo, H1.zone, fun b' g r h => ?_, fun b' es' sz' wg' com' he => ?_, fun b' s pos he g oc cap' hg => ?_, fun b1 b2 g g' c cap1 cap2 h1 h2 => ?_, pend_put H.pend hgr, fun b' es' sz' wg' com' he => ?_⟩, E2⟩
  · rw [List.length_set]
    rcases Ghost.put_row h with ⟨rfl, _, _⟩ | h
    · exact hbl
    · exact H.dom _ _ _ h
  · rcases get_set hbl he with ⟨hne, he2⟩ | ⟨rfl, he2⟩
    · obtain ⟨hf', hr'⟩ := H1.row b' es' sz' wg' com' he2
      refine ⟨hf', fun g oc cap' hg => ?_⟩
      have hg : G.row b' g = some (oc, cap') := by
        rcases Ghost.put_row hg with ⟨e, _, _⟩ | h
        · exact absurd e hne
        · exact h
      obtain ⟨h1, h2, h3, h4, h5⟩ := hr' g oc cap' hg
      refine ⟨(hle.sz _ _ _ hg).trans h1, h2, h3, h4, fun c hoc => ?_⟩
      obtain ⟨h6, h7, cs', t', h8, h9, h10⟩ := h5 c hoc
      exact ⟨h6, h7, cs', t', h8, h9, fun hw i o hi ho => (h10 hw i o hi ho).mono (fun _ _ h => h) hle (fun _ _ _ => rfl)⟩
    · injection he2 with e1 e2 e3 e4
      subst e1; subst e2; subst e3; subst e4
      refine ⟨h.fits, fun g oc cap' hg => ?_⟩
      rcases Ghost.put_row hg with ⟨_, rfl, hrr⟩ | hg
      · injection hrr with e1 e2
        subst e1; subst e2
        refine ⟨by simp [Ghost.put], Nat.le_refl _, hc, fun h => (nomatch h), fun c hoc => ?_⟩
        injection hoc with hoc
        subst hoc
        exact ⟨H.lo, fun j hz => absurd (H.zone _ _ hz) (Nat.lt_irrefl _), cs, t, by rw [alloc_heap, if_pos rfl], hs, fun _ i o hi ho => (h.rel i o hi ho).ext E2⟩
      · obtain ⟨h1, h2, h3, h4, h5⟩ := (H1.row b' es _ _ _ hb).2 g oc cap' hg
        refine ⟨by simp [Ghost.put], by omega, h3, h4, fun c hoc => ?_⟩
        obtain ⟨h6, h7, cs', t', h8, h9, h10⟩ := h5 c hoc
        refine ⟨h6, h7, cs', t', h8, h9, fun hw i o hi ho => ?_⟩
        rw [append_getD, if_pos (by omega)]
        exact (h10 hw i o hi ho).mono (fun _ _ h => h) hle (fun _ _ _ => rfl)
  · rcases get_set hbl he with ⟨hne, he2⟩ | ⟨rfl, he2⟩
    · have hg : G.row b' g = some (oc, cap') := by
        rcases Ghost.put_row hg with ⟨e, _, _⟩ | h
        · exact absurd e hne
        · exact h
      exact H1.sit b' s pos he2 g oc cap' hg
    · cases he2
  · rcases Ghost.put_row h1 with ⟨e0, _, e1⟩ | h1 <;> rcases Ghost.put_row h2 with ⟨e0', _, e2⟩ | h2
    · rw [e0, e0']
    · injection e1 with e1 _; injection e1 with e1; subst e1; exact absurd (H.old h2) (Nat.lt_irrefl _)
    · injection e2 with e2 _; injection e2 with e2; subst e2; exact absurd (H.old h1) (Nat.lt_irrefl _)
    · exact H.excl _ _ _ _ _ _ _ h1 h2
  · rcases get_set hbl he with ⟨hne, he2⟩ | ⟨rfl, he2⟩
    · exact H.wgle _ _ _ _ _ he2
    · injection he2 with e1 e2 e3 e4
      subst e1; subst e3; omega

/-- An own row gets longer, in its own block. -/
theorem HRel.growIn {base : Nat} {Z : Zone} {G : Ghost} {hp : Heap} {w : World} (H : HRel base Z G hp w) {b c : Nat} {es xs : List AV} {sz wg com cap : Nat} {cs cs' : Array Value} {t : TypeId} (hb : hp[b]? = some (.row es sz wg com)) (hx : 0 < xs.length)
    (hg : G.row b es.length = some (some c, cap)) (hh : w.heap[c]? = some (.cells cs t (0, 0))) (hs : cs'.size = cs.size) (hk : ∀ j, j < es.length * sz → cs'[j]? = cs[j]?) (hcom : com ≤ es.length)
    (h : RowRel Z G w (es ++ xs) sz cs') (hc : (es ++ xs).length ≤ cap) :
    HRel base Z (G.put b (es ++ xs).length (some c, cap) sz) (hp.set b (.row (es ++ xs) sz wg com)) (w.setRow c cs') ∧ Ext base Z G w Z (G.put b (es ++ xs).length (some c, cap) sz) (w.setRow c cs') := by
  have hbl := lt_of_get hb
  have hwg := H.wgle _ _ _ _ _ hb
  have hlx : (es ++ xs).length = es.length + xs.length := by simp
  obtain ⟨hsz, _, hgc, _, hcc⟩ := (H.row b es sz wg com hb).2 _ _ cap hg
  obtain ⟨hbase, hz, cs0, t0, hh0, hs0, _⟩ := hcc c rfl
  rw [hh] at hh0; injection hh0 with e; injection e with e1 e2; subst e1; subst e2
  have hnone : G.row b (es ++ xs).length = none := by
    cases hr : G.row b (es ++ xs).length with
    | none => rfl
    | some r => have := ((H.row b es sz wg com hb).2 _ r.1 r.2 hr).2.1; omega
  have hle : G.le (G.put b (es ++ xs).length (some c, cap) sz) := Ghost.put_le hnone (fun g r h => ((H.row b es sz wg com hb).2 g r.1 r.2 h).1)
  have hcom2 : com * sz ≤ es.length * sz := Nat.mul_le_mul_right _ hcom
  have keep : ∀ c' j, Z c' j → (w.setRow c cs').cell? ⟨c', j, none⟩ = w.cell? ⟨c', j, none⟩ := by
    intro c' j hzj
    by_cases e : c' = c
    · subst e
      rw [cell_setRow_same w c' j cs cs' t (0, 0) hh, cell_of_row w c' j cs t (0, 0) hh]
      exact hk j (by have := hz j hzj; omega)
    · exact cell_setRow_other w c cs' _ e
  have EX : Ext base Z G w Z (G.put b (es ++ xs).length (some c, cap) sz) (w.setRow c cs') := ⟨fun _ _ h => h, hle, below_setRow (.refl _ _) hbase cs', keep, fun _ _ h => .inl h⟩
  refine ⟨⟨by simpa using H.lo, fun c' j h => by simpa using H.zone c' j h, fun b' g r h => ?_, fun b' es2 sz2 wg2 com2 he => ?_, fun b' s pos he g oc cap' hg' => ?_, fun b1 b2 g g' c' cap1 cap2 h1 h2 => ?_, pend_put H.pend hg, fun b' es2 sz2 wg2 com2 he => ?_⟩, EX⟩
  · rw [List.length_set]
    rcases Ghost.put_row h with ⟨rfl, _, _⟩ | h
    · exact hbl
    · exact H.dom _ _ _ h
  · rcases get_set hbl he with ⟨hne, he2⟩ | ⟨rfl, he2⟩
    · obtain ⟨hf2, hr2⟩ := H.row b' es2 sz2 wg2 com2 he2
      refine ⟨hf2, fun g oc cap' hg' => ?_⟩
      have hg2 : G.row b' g = some (oc, cap') := by
        rcases Ghost.put_row hg' with ⟨e, _, _⟩ | h
        · exact absurd e hne
        · exact h
      clear hg'
      obtain ⟨h1, h2, h3, h4, h5⟩ := hr2 g oc cap' hg2
      refine ⟨(hle.sz _ _ _ hg2).trans h1, h2, h3, h4, fun c' hoc => ?_⟩
      obtain ⟨h6, h7, cs2, t2, h8, h9, h10⟩ := h5 c' hoc
      subst hoc
      have : c' ≠ c := by intro e; subst e; exact hne (H.excl _ _ _ _ _ _ _ hg2 hg)
      exact ⟨h6, h7, cs2, t2, by rw [setRow_other w c c' cs' this]; exact h8, h9, fun hw i o hi ho => (h10 hw i o hi ho).ext EX⟩
    · injection he2 with e1 e2 e3 e4
      subst e1; subst e2; subst e3; subst e4
      refine ⟨h.fits, fun g oc cap' hg' => ?_⟩
      rcases Ghost.put_row hg' with ⟨_, rfl, hrr⟩ | hg'
      · injection hrr with e1 e2
        subst e1; subst e2
        refine ⟨by simp [Ghost.put], Nat.le_refl _, hc, fun h => (nomatch h), fun c' hoc => ?_⟩
        injection hoc with hoc
        subst hoc
        exact ⟨hbase, hz, cs', t, setRow_heap w c cs cs' t (0, 0) hh, by rw [hs]; exact hs0, fun _ i o hi ho => (h.rel i o hi ho).ext EX⟩
      · obtain ⟨h1, h2, h3, h4, h5⟩ := (H.row b' es _ _ _ hb).2 g oc cap' hg'
        refine ⟨by simp [Ghost.put], by omega, h3, h4, fun c' hoc => ?_⟩
        obtain ⟨h6, h7, cs2, t2, h8, h9, h10⟩ := h5 c' hoc
        by_cases e : c' = c
        · subst e
          rw [hh] at h8; injection h8 with e; injection e with e1 e2; subst e1; subst e2
          refine ⟨h6, h7, cs', t, setRow_heap w c' cs cs' t (0, 0) hh, by rw [hs]; exact h9, fun hw i o hi ho => ?_⟩
          exact (h.rel i o (by omega) ho).ext EX
        · refine ⟨h6, h7, cs2, t2, by rw [setRow_other w c c' cs' e]; exact h8, h9, fun hw i o hi ho => ?_⟩
          rw [append_getD, if_pos (by omega)]
          exact (h10 hw i o hi ho).ext EX
  · rcases get_set hbl he with ⟨hne, he2⟩ | ⟨rfl, he2⟩
    · have hg2 : G.row b' g = some (oc, cap') := by
        rcases Ghost.put_row hg' with ⟨e, _, _⟩ | h
        · exact absurd e hne
        · exact h
      clear hg'
      obtain ⟨hg0, c', hoc, h1, h2⟩ := H.sit b' s pos he2 g oc cap' hg2
      subst hoc
      have : c' ≠ c := by intro e; subst e; exact hne (H.excl _ _ _ _ _ _ _ hg2 hg)
      exact ⟨hg0, c', rfl, h1, by rw [setRow_other w c c' cs' this]; exact h2⟩
    · cases he2
  · rcases Ghost.put_row h1 with ⟨e0, _, e1⟩ | k1 <;> rcases Ghost.put_row h2 with ⟨e0', _, e2⟩ | k2
    · rw [e0, e0']
    · injection e1 with e1 _; injection e1 with e1; subst e1; rw [e0]; exact H.excl _ _ _ _ _ _ _ hg k2
    · injection e2 with e2 _; injection e2 with e2; subst e2; rw [e0']; exact H.excl _ _ _ _ _ _ _ k1 hg
    · exact H.excl _ _ _ _ _ _ _ k1 k2
  · rcases get_set hbl he with ⟨hne, he2⟩ | ⟨rfl, he2⟩
    · exact H.wgle _ _ _ _ _ he2
    · injection he2 with e1 e2 e3 e4
      subst e1; subst e3; omega
end Go.EV
