/-
  Each operation of the model does what the evaluator says: append; ranging over a string.
-/
import Derived.Test.YtkdjkbgcebodgaaDoorEvP
import Derived.Lib.AtoiErrMem
import Derived.Lib.ConvBytes
set_option linter.unusedSimpArgs false
set_option linter.unusedVariables false
namespace Go.EV
open Go.RowKit
variable {E : Env} {P : Program}

/-- The cells of a slice's first elements. -/
theorem firstCells_at {Z : Zone} {G : Ghost} {w : World} {xs : List AV} {size c b : Nat} {V : Nat → Nat → Value} (hf : ∀ i, i < xs.length → (xs.getD i .undef).fits size = true)
    (hr : ∀ i o, i < xs.length → o < size → w.cell? ⟨c, b + (i * size + o), none⟩ = some (V i o)) (hv : ∀ i o, i < xs.length → o < size → Rel Z G w ((xs.getD i .undef).cells.getD o .undef) (V i o)) :
    ∃ arr, (loadCells ⟨c, b, none⟩ (xs.length * size)).run P w = .ok arr w ∧ arr.size = xs.length * size ∧ RowRel Z G w xs size arr := by
  by_cases hs : size = 0
  · subst hs
    refine ⟨#[], by simp [loadCells, loadCellsFrom], by simp, hf, by simp, fun i o _ ho => by omega⟩
  have hcell : ∀ j, j < xs.length * size → w.cell? ((⟨c, b, none⟩ : Addr).add j) = some (V (j / size) (j % size)) := by
    intro j hj
    have h1 : j / size < xs.length := Nat.div_lt_of_lt_mul (by rwa [Nat.mul_comm])
    have h2 : j % size < size := Nat.mod_lt _ (by omega)
    have h3 : j / size * size + j % size = j := by rw [Nat.mul_comm]; exact Nat.div_add_mod j size
    rw [addr_add, ← hr _ _ h1 h2, h3]
  have hl := run_loadCells (P := P) w ⟨c, b, none⟩ (xs.length * size) (fun j => V (j / size) (j % size)) hcell
  refine ⟨_, hl, by simp, hf, by simp, fun i o hi ho => ?_⟩
  have hb := mul_le_of_lt (sz := size) hi
  have hk : i * size + o < xs.length * size := by omega
  have h1 : (i * size + o) / size = i := by
    rw [Nat.mul_comm, Nat.mul_add_div (by omega), Nat.div_eq_of_lt ho]; omega
  have h2 : (i * size + o) % size = o := by rw [Nat.mul_comm, Nat.mul_add_mod]; exact Nat.mod_eq_of_lt ho
  have : (((List.range (xs.length * size)).map fun j => V (j / size) (j % size)).toArray).getD (i * size + o) Go.undef = V i o := by
    simp [Array.getD, hk, h1, h2]
  rw [this]
  exact hv i o hi ho

theorem content_ok {base : Nat} {Z : Zone} {G : Ghost} {hp : Heap} {w : World} (H : HRel base Z G hp w) {size : Nat} {x : AV} {v : Value} {xs : List AV} (hx : Rel Z G w x v) (h : content hp size x = some xs) :
    (Builtin.lenOf v).run P w = .ok xs.length w ∧ ∃ arr, (Builtin.firstCells size xs.length v).run P w = .ok arr w ∧ arr.size = xs.length * size ∧ RowRel Z G w xs size arr := by
  have empty : ∀ a cap, v = .slice a 0 cap → xs = [] → (Builtin.lenOf v).run P w = .ok xs.length w ∧ ∃ arr, (Builtin.firstCells size xs.length v).run P w = .ok arr w ∧ arr.size = xs.length * size ∧ RowRel Z G w xs size arr := by
    rintro a cap rfl rfl
    refine ⟨rfl, #[], ?_, by simp, fun i hi => by simp at hi, by simp, fun i o hi _ => by simp at hi⟩
    cases a <;> simp [Builtin.firstCells, loadCells, loadCellsFrom]
  unfold content at h
  split at h
  · injection h with h; subst h; cases hx.nils_inv; exact empty _ _ rfl rfl
  · injection h with h; subst h; obtain ⟨a, rfl⟩ := hx.z0_inv; exact empty _ _ rfl rfl
  · rename_i es
    split at h
    · rename_i hsz
      injection h with h; subst h
      cases hx with
      | pure hx =>
        cases hx with
        | sl0 a cap => exact empty _ _ rfl rfl
        | sl _ sz c off cap V hc hz hr hv =>
          refine ⟨rfl, ?_⟩
          by_cases hne : es.length = 0
          · have : es = [] := List.length_eq_zero_iff.1 hne
            subst this
            exact (empty _ _ rfl rfl).2
          · have hs : sz = size := by rw [← sized_get hsz (show 0 < es.length by omega), fits_len (hz 0 (by omega))]
            subst hs
            have := firstCells_at (P := P) (Z := Z) (G := G) (w := w) (xs := es) (size := sz) (c := c) (b := off) (V := V) hz (fun i o hi ho => (hr i o hi ho).1) (fun i o hi ho => .pure (hv i o hi ho))
            simpa [Builtin.firstCells] using this
    · cases h
  · rename_i b g off len
    split at h
    · rename_i es sz wg com hb
      split at h
      · rename_i hc
        obtain ⟨hwg, hsz⟩ := hc
        subst hsz
        injection h with h; subst h
        obtain ⟨oc, cap, a, rfl, hg, h1, h2, ha, _⟩ := hx.ms_inv
        obtain ⟨hf, hrow⟩ := H.row b es sz wg com hb
        obtain ⟨hG, hge, _, _, _⟩ := hrow g _ cap hg
        have hlen : ((es.drop off).take len).length = len := by simp; omega
        refine ⟨by rw [hlen]; rfl, ?_⟩
        by_cases h0 : len = 0
        · subst h0
          exact (empty _ _ rfl (by simp)).2
        · obtain ⟨c, rfl, rfl⟩ := ha (by omega)
          have hall : ∀ i, i < len → ((es.drop off).take len).getD i .undef = es.getD (off + i) .undef := by
            intro i hi
            simp only [List.getD_eq_getElem?_getD, List.getElem?_take, List.getElem?_drop]
            rw [if_pos hi]
          obtain ⟨_, _, _, _, _, cs, t, hh, hcs, _⟩ := row_cells H hb hg hwg (i := off) (by omega)
          have key := fun i (hi : i < len) => row_cells H hb hg hwg (i := off + i) (by omega)
          have := firstCells_at (P := P) (Z := Z) (G := G) (w := w) (xs := (es.drop off).take len) (size := sz) (c := c) (b := off * sz) (V := fun i o => cs.getD ((off + i) * sz + o) Go.undef)
            (fun i hi => by rw [hall i (by omega)]; exact hf _ (by omega))
            (fun i o hi ho => by
              obtain ⟨_, _, _, _, _, cs', t', hh', _, hcell, _⟩ := key i (by omega)
              rw [hh] at hh'; injection hh' with e; injection e with e1 e2; subst e1
              have := hcell o ho
              rwa [Nat.add_mul, Nat.add_assoc] at this ⊢)
            (fun i o hi ho => by
              obtain ⟨_, _, _, _, _, cs', t', hh', _, _, hrel⟩ := key i (by omega)
              rw [hh] at hh'; injection hh' with e; injection e with e1 e2; subst e1
              rw [hall i (by omega)]
              exact hrel o ho)
          rw [hG]
          simpa [Builtin.firstCells, hlen] using this
      · cases h
    · cases h
  · cases h

theorem growBy_le (n : Nat) : ∀ (k c : Nat), c ≤ n → Builtin.growBy n k c ≤ n + (n + 768) / 4
  | 0, c, h => by simp only [Builtin.growBy]; omega
  | k + 1, c, h => by
    simp only [Builtin.growBy]
    split
    · omega
    · rename_i hc
      by_cases h2 : c + (c + 768) / 4 ≤ n
      · exact growBy_le n k _ h2
      · have : ∀ k, Builtin.growBy n k (c + (c + 768) / 4) = c + (c + 768) / 4 := by
          intro k; cases k with
          | zero => rfl
          | succ k => simp only [Builtin.growBy]; rw [if_pos (by omega)]
        rw [this]; omega
theorem nextslicecap_le (n c : Nat) (h : c < n) : Builtin.nextslicecap n c ≤ 2 * n + 768 := by
  unfold Builtin.nextslicecap
  split
  · omega
  · split
    · omega
    · have := growBy_le n 4 c (by omega); omega

theorem RowRel.append {Z : Zone} {G : Ghost} {w : World} {es xs : List AV} {sz : Nat} {cs ds : Array Value} (h1 : RowRel Z G w es sz cs) (hs : cs.size = es.length * sz) (h2 : RowRel Z G w xs sz ds) (rest : Array Value) : RowRel Z G w (es ++ xs) sz (cs ++ ds ++ rest) := by
  have get : ∀ i, (es ++ xs).getD i .undef = if i < es.length then es.getD i .undef else xs.getD (i - es.length) .undef := by
    intro i
    simp only [List.getD_eq_getElem?_getD]
    split
    · rename_i h; rw [List.getElem?_append_left h]
    · rename_i h; rw [List.getElem?_append_right (by omega)]
  have h2s := h2.size
  refine ⟨fun i hi => ?_, ?_, fun i o hi ho => ?_⟩
  · rw [get]; split
    · rename_i h; exact h1.fits i h
    · rename_i h; exact h2.fits _ (by simp at hi; omega)
  · simp only [List.length_append, Array.size_append, Nat.add_mul]; omega
  · simp only [List.length_append] at hi
    rw [get]
    by_cases h : i < es.length
    · rw [if_pos h]
      have hb := mul_le_of_lt (sz := sz) h
      have : (cs ++ ds ++ rest).getD (i * sz + o) Go.undef = cs.getD (i * sz + o) Go.undef := by
        rw [Array.getD_eq_getD_getElem?, Array.getD_eq_getD_getElem?, Array.append_assoc, Array.getElem?_append_left (by omega)]
      rw [this]; exact h1.rel i o h ho
    · rw [if_neg h]
      have hb := mul_le_of_lt (sz := sz) (show i - es.length < xs.length by omega)
      have e : i * sz = es.length * sz + (i - es.length) * sz := by rw [← Nat.add_mul]; congr 1; omega
      have : (cs ++ ds ++ rest).getD (i * sz + o) Go.undef = ds.getD ((i - es.length) * sz + o) Go.undef := by
        rw [Array.getD_eq_getD_getElem?, Array.getD_eq_getD_getElem?, Array.append_assoc, Array.getElem?_append_right (by omega), Array.getElem?_append_left (by omega)]
        congr 2; omega
      rw [this]; exact h2.rel _ o (by omega) ho

theorem append_getD (es xs : List AV) (i : Nat) : (es ++ xs).getD i .undef = if i < es.length then es.getD i .undef else xs.getD (i - es.length) .undef := by
  simp only [List.getD_eq_getElem?_getD]
  split
  · rename_i h; rw [List.getElem?_append_left h]
  · rename_i h; rw [List.getElem?_append_right (by omega)]

/-- An own row gets longer, in a new block. -/
theorem HRel.growNew {base : Nat} {Z : Zone} {G : Ghost} {hp : Heap} {w : World} (H : HRel base Z G hp w) {b : Nat} {es xs : List AV} {sz wg com cap : Nat} {cs : Array Value} (t : TypeId) (hb : hp[b]? = some (.row es sz wg com)) (hx : 0 < xs.length)
    {g1 : Nat} {r1 : Option Nat × Nat} (hgr : G.row b g1 = some r1) (hG : ∀ g r, G.row b g = some r → G.sz b = sz) (h : RowRel Z G w (es ++ xs) sz cs) (hs : cs.size = cap * sz) (hc : (es ++ xs).length ≤ cap) :
    HRel base Z (G.put b (es ++ xs).length (some w.heap.size, cap) sz) (hp.set b (.row (es ++ xs) sz wg com)) (w.alloc (.cells cs t)) ∧ Ext base Z G w Z (G.put b (es ++ xs).length (some w.heap.size, cap) sz) (w.alloc (.cells cs t)) := by
  have hbl := lt_of_get hb
  have hwg := H.wgle _ _ _ _ _ hb
  have hlx : (es ++ xs).length = es.length + xs.length := by simp
  have hnone : G.row b (es ++ xs).length = none := by
    cases hr : G.row b (es ++ xs).length with
    | none => rfl
    | some r => have := ((H.row b es sz wg com hb).2 _ r.1 r.2 hr).2.1; omega
  have hle : G.le (G.put b (es ++ xs).length (some w.heap.size, cap) sz) := Ghost.put_le hnone (fun g r h => hG g r h)
  have H1 := H.alloc (.cells cs t)
  have E1 := Ext.alloc H (.cells cs t)
  have E2 : Ext base Z G w Z (G.put b (es ++ xs).length (some w.heap.size, cap) sz) (w.alloc (.cells cs t)) := ⟨E1.zsub, hle, E1.below, E1.keep, E1.znew⟩
  refine ⟨⟨H1.lo, H1.zone, fun b' g r h => ?_, fun b' es' sz' wg' com' he => ?_, fun b' s pos he g oc cap' hg => ?_, fun b1 b2 g g' c cap1 cap2 h1 h2 => ?_, pend_put H.pend hgr, fun b' es' sz' wg' com' he => ?_⟩, E2⟩
  · rw [List.length_set]
    rcases Ghost.put_row h with ⟨rfl, _, _⟩ | h
    · exact hbl
    · exact H.dom _ _ _ h
  · rcases get_set hbl he with ⟨hne, he2⟩ | ⟨rfl, he2⟩
    · obtain ⟨hf', hr'⟩ := H1.row b' es' sz' wg' com' he2
      refine ⟨hf', fun g oc cap' hg => ?_⟩
      have hg : G.row b' g = some (oc, cap') := by
        rcases Ghost.put_row hg with ⟨e, _, _⟩ | h
        · exact absurd e hne
        · exact h
      obtain ⟨h1, h2, h3, h4, h5⟩ := hr' g oc cap' hg
      refine ⟨(hle.sz _ _ _ hg).trans h1, h2, h3, h4, fun c hoc => ?_⟩
      obtain ⟨h6, h7, cs', t', h8, h9, h10⟩ := h5 c hoc
      exact ⟨h6, h7, cs', t', h8, h9, fun hw i o hi ho => (h10 hw i o hi ho).mono (fun _ _ h => h) hle (fun _ _ _ => rfl)⟩
    · injection he2 with e1 e2 e3 e4
      subst e1; subst e2; subst e3; subst e4
      refine ⟨h.fits, fun g oc cap' hg => ?_⟩
      rcases Ghost.put_row hg with ⟨_, rfl, hrr⟩ | hg
      · injection hrr with e1 e2
        subst e1; subst e2
        refine ⟨by simp [Ghost.put], Nat.le_refl _, hc, fun h => (nomatch h), fun c hoc => ?_⟩
        injection hoc with hoc
        subst hoc
        exact ⟨H.lo, fun j hz => absurd (H.zone _ _ hz) (Nat.lt_irrefl _), cs, t, by rw [alloc_heap, if_pos rfl], hs, fun _ i o hi ho => (h.rel i o hi ho).ext E2⟩
      · obtain ⟨h1, h2, h3, h4, h5⟩ := (H1.row b' es _ _ _ hb).2 g oc cap' hg
        refine ⟨by simp [Ghost.put], by omega, h3, h4, fun c hoc => ?_⟩
        obtain ⟨h6, h7, cs', t', h8, h9, h10⟩ := h5 c hoc
        refine ⟨h6, h7, cs', t', h8, h9, fun hw i o hi ho => ?_⟩
        rw [append_getD, if_pos (by omega)]
        exact (h10 hw i o hi ho).mono (fun _ _ h => h) hle (fun _ _ _ => rfl)
  · rcases get_set hbl he with ⟨hne, he2⟩ | ⟨rfl, he2⟩
    · have hg : G.row b' g = some (oc, cap') := by
        rcases Ghost.put_row hg with ⟨e, _, _⟩ | h
        · exact absurd e hne
        · exact h
      exact H1.sit b' s pos he2 g oc cap' hg
    · cases he2
  · rcases Ghost.put_row h1 with ⟨e0, _, e1⟩ | h1 <;> rcases Ghost.put_row h2 with ⟨e0', _, e2⟩ | h2
    · rw [e0, e0']
    · injection e1 with e1 _; injection e1 with e1; subst e1; exact absurd (H.old h2) (Nat.lt_irrefl _)
    · injection e2 with e2 _; injection e2 with e2; subst e2; exact absurd (H.old h1) (Nat.lt_irrefl _)
    · exact H.excl _ _ _ _ _ _ _ h1 h2
  · rcases get_set hbl he with ⟨hne, he2⟩ | ⟨rfl, he2⟩
    · exact H.wgle _ _ _ _ _ he2
    · injection he2 with e1 e2 e3 e4
      subst e1; subst e3; omega

/-- An own row gets longer, in its own block. -/
theorem HRel.growIn {base : Nat} {Z : Zone} {G : Ghost} {hp : Heap} {w : World} (H : HRel base Z G hp w) {b c : Nat} {es xs : List AV} {sz wg com cap : Nat} {cs cs' : Array Value} {t : TypeId} (hb : hp[b]? = some (.row es sz wg com)) (hx : 0 < xs.length)
    (hg : G.row b es.length = some (some c, cap)) (hh : w.heap[c]? = some (.cells cs t (0, 0))) (hs : cs'.size = cs.size) (hk : ∀ j, j < es.length * sz → cs'[j]? = cs[j]?) (hcom : com ≤ es.length)
    (h : RowRel Z G w (es ++ xs) sz cs') (hc : (es ++ xs).length ≤ cap) :
    HRel base Z (G.put b (es ++ xs).length (some c, cap) sz) (hp.set b (.row (es ++ xs) sz wg com)) (w.setRow c cs') ∧ Ext base Z G w Z (G.put b (es ++ xs).length (some c, cap) sz) (w.setRow c cs') := by
  have hbl := lt_of_get hb
  have hwg := H.wgle _ _ _ _ _ hb
  have hlx : (es ++ xs).length = es.length + xs.length := by simp
  obtain ⟨hsz, _, hgc, _, hcc⟩ := (H.row b es sz wg com hb).2 _ _ cap hg
  obtain ⟨hbase, hz, cs0, t0, hh0, hs0, _⟩ := hcc c rfl
  rw [hh] at hh0; injection hh0 with e; injection e with e1 e2; subst e1; subst e2
  have hnone : G.row b (es ++ xs).length = none := by
    cases hr : G.row b (es ++ xs).length with
    | none => rfl
    | some r => have := ((H.row b es sz wg com hb).2 _ r.1 r.2 hr).2.1; omega
  have hle : G.le (G.put b (es ++ xs).length (some c, cap) sz) := Ghost.put_le hnone (fun g r h => ((H.row b es sz wg com hb).2 g r.1 r.2 h).1)
  have hcom2 : com * sz ≤ es.length * sz := Nat.mul_le_mul_right _ hcom
  have keep : ∀ c' j, Z c' j → (w.setRow c cs').cell? ⟨c', j, none⟩ = w.cell? ⟨c', j, none⟩ := by
    intro c' j hzj
    by_cases e : c' = c
    · subst e
      rw [cell_setRow_same w c' j cs cs' t (0, 0) hh, cell_of_row w c' j cs t (0, 0) hh]
      exact hk j (by have := hz j hzj; omega)
    · exact cell_setRow_other w c cs' _ e
  have EX : Ext base Z G w Z (G.put b (es ++ xs).length (some c, cap) sz) (w.setRow c cs') := ⟨fun _ _ h => h, hle, below_setRow (.refl _ _) hbase cs', keep, fun _ _ h => .inl h⟩
  refine ⟨⟨by simpa using H.lo, fun c' j h => by simpa using H.zone c' j h, fun b' g r h => ?_, fun b' es2 sz2 wg2 com2 he => ?_, fun b' s pos he g oc cap' hg' => ?_, fun b1 b2 g g' c' cap1 cap2 h1 h2 => ?_, pend_put H.pend hg, fun b' es2 sz2 wg2 com2 he => ?_⟩, EX⟩
  · rw [List.length_set]
    rcases Ghost.put_row h with ⟨rfl, _, _⟩ | h
    · exact hbl
    · exact H.dom _ _ _ h
  · rcases get_set hbl he with ⟨hne, he2⟩ | ⟨rfl, he2⟩
    · obtain ⟨hf2, hr2⟩ := H.row b' es2 sz2 wg2 com2 he2
      refine ⟨hf2, fun g oc cap' hg' => ?_⟩
      have hg2 : G.row b' g = some (oc, cap') := by
        rcases Ghost.put_row hg' with ⟨e, _, _⟩ | h
        · exact absurd e hne
        · exact h
      clear hg'
      obtain ⟨h1, h2, h3, h4, h5⟩ := hr2 g oc cap' hg2
      refine ⟨(hle.sz _ _ _ hg2).trans h1, h2, h3, h4, fun c' hoc => ?_⟩
      obtain ⟨h6, h7, cs2, t2, h8, h9, h10⟩ := h5 c' hoc
      subst hoc
      have : c' ≠ c := by intro e; subst e; exact hne (H.excl _ _ _ _ _ _ _ hg2 hg)
      exact ⟨h6, h7, cs2, t2, by rw [setRow_other w c c' cs' this]; exact h8, h9, fun hw i o hi ho => (h10 hw i o hi ho).ext EX⟩
    · injection he2 with e1 e2 e3 e4
      subst e1; subst e2; subst e3; subst e4
      refine ⟨h.fits, fun g oc cap' hg' => ?_⟩
      rcases Ghost.put_row hg' with ⟨_, rfl, hrr⟩ | hg'
      · injection hrr with e1 e2
        subst e1; subst e2
        refine ⟨by simp [Ghost.put], Nat.le_refl _, hc, fun h => (nomatch h), fun c' hoc => ?_⟩
        injection hoc with hoc
        subst hoc
        exact ⟨hbase, hz, cs', t, setRow_heap w c cs cs' t (0, 0) hh, by rw [hs]; exact hs0, fun _ i o hi ho => (h.rel i o hi ho).ext EX⟩
      · obtain ⟨h1, h2, h3, h4, h5⟩ := (H.row b' es _ _ _ hb).2 g oc cap' hg'
        refine ⟨by simp [Ghost.put], by omega, h3, h4, fun c' hoc => ?_⟩
        obtain ⟨h6, h7, cs2, t2, h8, h9, h10⟩ := h5 c' hoc
        by_cases e : c' = c
        · subst e
          rw [hh] at h8; injection h8 with e; injection e with e1 e2; subst e1; subst e2
          refine ⟨h6, h7, cs', t, setRow_heap w c' cs cs' t (0, 0) hh, by rw [hs]; exact h9, fun hw i o hi ho => ?_⟩
          exact (h.rel i o (by omega) ho).ext EX
        · refine ⟨h6, h7, cs2, t2, by rw [setRow_other w c c' cs' e]; exact h8, h9, fun hw i o hi ho => ?_⟩
          rw [append_getD, if_pos (by omega)]
          exact (h10 hw i o hi ho).ext EX
  · rcases get_set hbl he with ⟨hne, he2⟩ | ⟨rfl, he2⟩
    · have hg2 : G.row b' g = some (oc, cap') := by
        rcases Ghost.put_row hg' with ⟨e, _, _⟩ | h
        · exact absurd e hne
        · exact h
      clear hg'
      obtain ⟨hg0, c', hoc, h1, h2⟩ := H.sit b' s pos he2 g oc cap' hg2
      subst hoc
      have : c' ≠ c := by intro e; subst e; exact hne (H.excl _ _ _ _ _ _ _ hg2 hg)
      exact ⟨hg0, c', rfl, h1, by rw [setRow_other w c c' cs' this]; exact h2⟩
    · cases he2
  · rcases Ghost.put_row h1 with ⟨e0, _, e1⟩ | k1 <;> rcases Ghost.put_row h2 with ⟨e0', _, e2⟩ | k2
    · rw [e0, e0']
    · injection e1 with e1 _; injection e1 with e1; subst e1; rw [e0]; exact H.excl _ _ _ _ _ _ _ hg k2
    · injection e2 with e2 _; injection e2 with e2; subst e2; rw [e0']; exact H.excl _ _ _ _ _ _ _ k1 hg
    · exact H.excl _ _ _ _ _ _ _ k1 k2
  · rcases get_set hbl he with ⟨hne, he2⟩ | ⟨rfl, he2⟩
    · exact H.wgle _ _ _ _ _ he2
    · injection he2 with e1 e2 e3 e4
      subst e1; subst e3; omega
end Go.EV
/-
  append; ranging over a string; nil slices that become own rows; what is let go.
-/
set_option linter.unusedSimpArgs false
set_option linter.unusedVariables false
namespace Go.EV
open Go.RowKit
variable {E : Env} {P : Program}


/-- append where there is room, or nothing is added. -/
theorem run_append_in {t u e e' ty : TypeId} {te : TI} (hu : P.underlying t = some (.slice e)) (hu' : P.underlying u = some (.slice e')) (hte : TiOk P e te) {w w' : World} {base : Option Addr} {sLen sCap n : Nat} {x : Value} {arr : Array Value}
    (hn : (Builtin.lenOf x).run P w = .ok n w) (ha : (Builtin.firstCells te.size n x).run P w = .ok arr w) (hc : sLen + n ≤ sCap) (hs : (match base with | some a => storeCells (a.add (sLen * te.size)) arr.toList | none => pure ()).run P w = .ok () w') :
    (Builtin.append_ #[t, u] ty #[.slice base sLen sCap, x]).run P w = .ok (.slice base (sLen + n) sCap) w' := by
  have h0 : (#[t, u] : Array TypeId)[0]? = some t := rfl
  have h1 : (#[t, u] : Array TypeId)[1]? = some u := rfl
  have h2 : (#[Value.slice base sLen sCap, x] : Array Value)[0]? = some (Value.slice base sLen sCap) := rfl
  have h3 : (#[Value.slice base sLen sCap, x] : Array Value)[1]? = some x := rfl
  unfold Builtin.append_
  simp only [h0, h1, h2, h3, Sem.run_bind, run_underlying hu, run_underlying hu', Result.andThen_ok, run_sizeOf' hte,
    Sem.run_pure, Bool.false_eq_true, if_false, hn, Bool.not_false, if_true]
  rw [if_pos hc]
  simp only [Sem.run_bind, ha, Result.andThen_ok]
  cases base with
  | none => simp only [Sem.run_pure] at hs; injection hs with _ hs; subst hs; rfl
  | some a => simp only [Sem.run_bind] at hs ⊢; rw [hs]; rfl

theorem run_append_new {t u e e' ty : TypeId} {te : TI} (hu : P.underlying t = some (.slice e)) (hu' : P.underlying u = some (.slice e')) (hte : TiOk P e te) {w : World} {base : Option Addr} {sLen sCap n : Nat} {x : Value} {old arr : Array Value} (hz0 : te.zero.fits te.size = true)
    (hn : (Builtin.lenOf x).run P w = .ok n w) (hc : sCap < sLen + n) (hb : (2 * (sLen + n) + 768) * te.bytes ≤ 2 ^ 48) (hm : (sLen + n) ≤ 2 ^ 48)
    (ho : (Builtin.firstCells te.size sLen (.slice base sLen sCap)).run P w.drew = .ok old w.drew) (ha : (Builtin.firstCells te.size n x).run P w.drew = .ok arr w.drew) (hos : old.size = sLen * te.size) (has : arr.size = n * te.size) :
    ∃ (newCap : Nat) (rest : Array Value), sLen + n ≤ newCap ∧ (old ++ arr ++ rest).size = newCap * te.size ∧
      (Builtin.append_ #[t, u] ty #[.slice base sLen sCap, x]).run P w = .ok (.slice (some ⟨w.heap.size, 0, none⟩) (sLen + n) newCap) (w.drew.alloc (.cells (old ++ arr ++ rest) e)) := by
  obtain ⟨inf, hi, hs, hbt, z, hz, hzr⟩ := hte.info
  have hzero : ∀ w, (zeroValue e).run P w = .ok z w := by intro w; simp [zeroValue, typeInfo, hi, hz]
  have hzs : z.cells.size = te.size := ((Rel.pure (hzr (fun _ _ => False) w) : Rel (fun _ _ => False) Ghost.empty w te.zero z).cellsOf hz0).1
  have hti : ∀ w, (typeInfo e).run P w = .ok inf w := by intro w; simp [typeInfo, hi]
  let q : Question := .appendCap (sLen + n) sCap e
  have hq : q.forced = false := rfl
  have hcap : sLen + n ≤ q.cut (w.tape w.drawn q) := by show _ ≤ (sLen + n) + _ % _; omega
  refine ⟨q.cut (w.tape w.drawn q), Builtin.zeroCells z.cells (q.cut (w.tape w.drawn q) - (sLen + n)), hcap, ?_, ?_⟩
  · simp only [Array.size_append, hos, has, Builtin.zeroCells, Array.size_map, Array.size_range, hzs, ← Nat.add_mul]
    congr 1; omega
  · have hle := nextslicecap_le (sLen + n) sCap hc
    have hmul : Builtin.nextslicecap (sLen + n) sCap * te.bytes ≤ 2 ^ 48 := Nat.le_trans (Nat.mul_le_mul_right _ hle) hb
    have h0 : (#[t, u] : Array TypeId)[0]? = some t := rfl
    have h1 : (#[t, u] : Array TypeId)[1]? = some u := rfl
    have h2 : (#[Value.slice base sLen sCap, x] : Array Value)[0]? = some (Value.slice base sLen sCap) := rfl
    have h3 : (#[Value.slice base sLen sCap, x] : Array Value)[1]? = some x := rfl
    have hmax : ¬ (((sLen + n : Nat) : Int) > IntKind.i64.max ∧ (False ∨ te.bytes = 0)) := by
      intro h
      have h4 : (9223372036854775807 : Int) < ((sLen + n : Nat) : Int) := h.1
      omega
    unfold Builtin.append_
    simp only [h0, h1, h2, h3, Sem.run_bind, run_underlying hu, run_underlying hu', Result.andThen_ok, run_sizeOf' hte,
      Sem.run_pure, Bool.false_eq_true, if_false, hn, Bool.not_false, if_true, Sem.run_ite, hti, hbt]
    rw [if_neg (by omega), if_neg hmax, if_neg (by omega)]
    simp only [Sem.run_bind, run_choose, Result.andThen_ok, hti, run_askRoom]
    rw [if_neg (by rw [show (Question.appendCap (sLen + n) sCap e).forced = false from rfl]; exact Bool.false_ne_true)]
    have hdrew : ({ w with drawn := w.drawn + 1 } : World) = w.drew := rfl
    simp only [Result.andThen_ok, hti, run_askRoom, hdrew, ho, ha, hzero, newRow, Sem.run_bind, run_newObj, Sem.run_pure]
    rfl


theorem storeNone (base : Option Addr) (k : Nat) {arr : Array Value} (h : arr.size = 0) (w : World) : (match base with | some a => storeCells (a.add k) arr.toList | none => pure () : Sem Unit).run P w = .ok () w := by
  have : arr = #[] := Array.eq_empty_of_size_eq_zero h
  subst this
  cases base <;> rfl

theorem OpPost.trans {base : Nat} {Z Z' : Zone} {G G' : Ghost} {hp : Heap} {w w' w'' : World} {r : AV} {v : Value} (h : Ext base Z G w Z' G' w') (k : OpPost base Z' G' hp w' r v w'') : OpPost base Z G hp w r v w'' := by
  obtain ⟨Z2, G2, e, H, hr⟩ := k
  exact ⟨Z2, G2, h.trans e, H, hr⟩

theorem append_fresh {base : Nat} {Z : Zone} {G : Ghost} {hp : Heap} {w : World} (H : HRel base Z G hp w) {t u e e' ty : TypeId} {te : TI} (hu : P.underlying t = some (.slice e)) (hu' : P.underlying u = some (.slice e')) (hte : TiOk P e te)
    {x : AV} {v : Value} {xs : List AV} (hx : Rel Z G w x v) (hcont : content hp te.size x = some xs) (a : Option Addr) (h0 : xs.length ≠ 0) (hc : xs.length * te.bytes ≤ 1099511627776 ∧ xs.length ≤ 1099511627776 ∧ 0 < te.size ∧ te.bytes ≤ 1073741824 ∧ te.zero.fits te.size = true) :
    ∃ r w', (Builtin.append_ #[t, u] ty #[.slice a 0 0, v]).run P w = .ok r w' ∧ OpPost base Z G (hp ++ [.row xs te.size 0 0]) w (.ms hp.length xs.length 0 xs.length) r w' := by
  obtain ⟨c1, c2, c3, c4, c5⟩ := hc
  obtain ⟨hn, _⟩ := content_ok (P := P) H hx hcont
  obtain ⟨_, arr, ha, hs, hrow⟩ := content_ok (P := P) H.drew (hx.ext (Ext.drew base Z G w)) hcont
  have hold : (Builtin.firstCells te.size 0 (.slice a 0 0)).run P w.drew = .ok #[] w.drew := by cases a <;> simp [Builtin.firstCells, loadCells, loadCellsFrom]
  have hb : (2 * (0 + xs.length) + 768) * te.bytes ≤ 2 ^ 48 := by
    have : (2 * (0 + xs.length) + 768) * te.bytes = 2 * (xs.length * te.bytes) + 768 * te.bytes := by rw [Nat.add_mul, Nat.mul_assoc]; simp
    omega
  obtain ⟨newCap, rest, h1, h2, h3⟩ := run_append_new (ty := ty) hu hu' hte c5 (base := a) (sLen := 0) (sCap := 0) hn (by omega) hb (by omega) hold ha (by simp) hs
  simp only [Array.empty_append, Nat.zero_add] at h1 h2 h3
  refine ⟨_, _, h3, OpPost.trans (Ext.drew base Z G w) ?_⟩
  have hrow' : RowRel Z G w.drew xs te.size (arr ++ rest) := by
    refine ⟨hrow.fits, by simp; omega, fun i o hi ho => ?_⟩
    have hbnd := mul_le_of_lt (sz := te.size) hi
    have : (arr ++ rest).getD (i * te.size + o) Go.undef = arr.getD (i * te.size + o) Go.undef := by
      rw [Array.getD_eq_getD_getElem?, Array.getD_eq_getD_getElem?, Array.getElem?_append_left (by omega)]
    rw [this]; exact hrow.rel i o hi ho
  exact newRow_ok H.drew e hrow' h2 (by omega)

theorem append_ok {base : Nat} {Z : Zone} {G : Ghost} {hp hp' : Heap} {w : World} (H : HRel base Z G hp w) (hE : ∀ t ti, E.ti t = some ti → TiOk P t ti) {t u ty : TypeId} {s x r : AV} {sv xv : Value} (hs : Rel Z G w s sv) (hx : Rel Z G w x xv)
    (h : appendAV E hp t u s x = some (r, hp')) : ∃ v w', (Builtin.append_ #[t, u] ty #[sv, xv]).run P w = .ok v w' ∧ OpPost base Z G hp' w r v w' := by
  unfold appendAV at h
  split at h
  rotate_left
  · cases h
  rename_i ti tu ht htu
  have hu := (hE _ _ ht).desc
  have hu' := (hE _ _ htu).desc
  split at h
  rotate_left
  · cases h
  rename_i e e' hd hd'
  rw [hd] at hu; rw [hd'] at hu'
  split at h
  rotate_left
  · cases h
  rename_i te hte
  have hT := hE _ _ hte
  split at h
  rotate_left
  · cases h
  rename_i xs hcont
  obtain ⟨hn, arr, ha, has, hrow⟩ := content_ok (P := P) H hx hcont
  have same : ∀ a len cap, sv = .slice a len cap → len ≤ cap → xs.length = 0 → some (s, hp) = some (r, hp') → ∃ v w', (Builtin.append_ #[t, u] ty #[sv, xv]).run P w = .ok v w' ∧ OpPost base Z G hp' w r v w' := by
    intro a len cap hsv hle h0 he
    injection he with he; injection he with h1 h2; subst h1; subst h2; subst hsv
    rw [h0] at hn ha has
    have := run_append_in (P := P) (ty := ty) hu hu' hT (sLen := len) (sCap := cap) hn ha (by omega) (storeNone a (len * te.size) (by simpa using has) w)
    exact ⟨_, _, this, OpPost.same H hs⟩
  split at h
  · -- nil
    cases hs.nils_inv
    split at h
    · rename_i h0; exact same _ _ _ rfl (Nat.le_refl _) h0 h
    · rename_i h0
      split at h
      · rename_i hc
        injection h with h; injection h with h1 h2; subst h1; subst h2
        exact append_fresh H hu hu' hT hx hcont none h0 hc
      · cases h
  · obtain ⟨a, rfl⟩ := hs.z0_inv
    split at h
    · rename_i h0; exact same _ _ _ rfl (Nat.le_refl _) h0 h
    · rename_i h0
      split at h
      · rename_i hc
        injection h with h; injection h with h1 h2; subst h1; subst h2
        exact append_fresh H hu hu' hT hx hcont a h0 hc
      · cases h
  · rename_i es
    obtain ⟨a, cap, rfl, hle, _⟩ := hs.sl_inv
    split at h
    · rename_i h0; exact same _ _ _ rfl hle h0 h
    · cases h
  · rename_i b g off len
    obtain ⟨oc, cap, a, rfl, hg, hl1, hl2, hla, _⟩ := hs.ms_inv
    split at h
    · rename_i h0; exact same _ _ _ rfl (by omega) h0 h
    · rename_i h0
      split at h
      rotate_left
      · cases h
      rename_i es sz wg com hb
      split at h
      rotate_left
      · cases h
      rename_i hc
      obtain ⟨c1, c2, c3, c4, c5, c6, c7, c8, c9, c10⟩ := hc
      subst c1; subst c2; subst c3; subst c4
      injection h with h; injection h with h1 h2; subst h1; subst h2
      obtain ⟨hf, hrows⟩ := H.row b es te.size wg com hb
      obtain ⟨hG, _, hgc, hnone, hcc⟩ := hrows _ _ cap hg
      have hlx : (es ++ xs).length = es.length + xs.length := by simp
      simp only [Nat.sub_zero]
      by_cases hroom : es.length + xs.length ≤ cap
      · -- in its own block
        obtain ⟨c, rfl, rfl⟩ := hla (by omega)
        obtain ⟨hbase, hz, cs, t', hh, hcs, hcell⟩ := hcc c rfl
        have hm1 : (es.length + xs.length) * te.size ≤ cap * te.size := Nat.mul_le_mul_right _ hroom
        rw [Nat.add_mul] at hm1
        have hone : ∀ v ∈ arr.toList, v.oneCell' = true := by
          intro v hv
          obtain ⟨j, hj, rfl⟩ := List.mem_iff_getElem.1 hv
          have hj' : j < xs.length * te.size := by rw [← has]; simpa using hj
          have h1 : j / te.size < xs.length := Nat.div_lt_of_lt_mul (by rwa [Nat.mul_comm])
          have h2 : j % te.size < te.size := Nat.mod_lt _ c6
          have h3 : j / te.size * te.size + j % te.size = j := by rw [Nat.mul_comm]; exact Nat.div_add_mod j te.size
          have hr := hrow.rel _ _ h1 h2
          rw [h3] at hr
          have h4 := hr.oneCell (fits_zero_undef (hrow.fits _ h1) _ h2)
          have h5 : arr.getD j Go.undef = arr.toList[j] := by
            have : j < arr.size := by omega
            simp [Array.getD, this]
          rwa [h5] at h4
        have hst := run_storeCells_at P c (es.length * te.size) t' arr.toList 0 cs w hh (by simp; omega) hone
        simp only [Nat.add_zero, Array.length_toList] at hst
        have hrun := run_append_in (P := P) (ty := ty) hu hu' hT (base := some ⟨c, 0 * G.sz b, none⟩) (sLen := es.length) (sCap := cap) (w' := w.setRow c (cs.toList.take (es.length * te.size) ++ arr.toList ++ cs.toList.drop (es.length * te.size + arr.size)).toArray) hn ha hroom
          (by simp only [Nat.zero_mul, addr_add, Nat.zero_add]; exact hst)
        refine ⟨_, _, hrun, ?_⟩
        have hcs' : ((cs.toList.take (es.length * te.size) ++ arr.toList ++ cs.toList.drop (es.length * te.size + arr.size)).toArray).size = cs.size := by simp; omega
        have hget : ∀ k, ((cs.toList.take (es.length * te.size) ++ arr.toList ++ cs.toList.drop (es.length * te.size + arr.size)).toArray).getD k Go.undef = if k < es.length * te.size then cs.getD k Go.undef else if k < es.length * te.size + arr.size then arr.getD (k - es.length * te.size) Go.undef else cs.getD k Go.undef := by
          intro k
          have := splice_getD cs.toList arr.toList (es.length * te.size) Go.undef (by simp; omega) k
          simp only [Array.length_toList] at this
          rw [list_getD, this, arr_getD, arr_getD]
        have hrow2 : RowRel Z G w (es ++ xs) te.size ((cs.toList.take (es.length * te.size) ++ arr.toList ++ cs.toList.drop (es.length * te.size + arr.size)).toArray) := by
          refine ⟨fun i hi => ?_, by rw [hcs', hlx, Nat.add_mul]; omega, fun i o hi ho => ?_⟩
          · rw [append_getD]; split
            · rename_i hlt; exact hf i hlt
            · exact hrow.fits _ (by omega)
          · rw [append_getD, hget]
            by_cases hlt : i < es.length
            · have hbnd := mul_le_of_lt (sz := te.size) hlt
              rw [if_pos hlt, if_pos (by omega)]
              exact hcell (H.wgle _ _ _ _ _ hb) i o hlt ho
            · have hbnd := mul_le_of_lt (sz := te.size) (show i - es.length < xs.length by omega)
              have e1 : i * te.size = es.length * te.size + (i - es.length) * te.size := by rw [← Nat.add_mul]; congr 1; omega
              rw [if_neg hlt, if_neg (by omega), if_pos (by omega), show i * te.size + o - es.length * te.size = (i - es.length) * te.size + o by omega]
              exact hrow.rel _ o (by omega) ho
        obtain ⟨H', E'⟩ := HRel.growIn H hb (by omega) hg hh hcs' (fun j hj => by
            have hjl : j < cs.size := by omega
            simp only [List.getElem?_toArray, List.append_assoc]
            rw [List.getElem?_append_left (by simp; omega), List.getElem?_take, if_pos (by omega)]
            simp) c5 hrow2 (by omega)
        refine ⟨_, _, E', H', ?_⟩
        rw [hlx] at *
        have := Rel.ms_new (Z := Z) (w := w.setRow c (cs.toList.take (es.length * te.size) ++ arr.toList ++ cs.toList.drop (es.length * te.size + arr.size)).toArray) (sz := te.size) (Ghost.put_same G b (es.length + xs.length) (some c, cap) te.size) hroom
        simpa using this
      · -- in a new block
        obtain ⟨hn', arr', ha', has', hrow'⟩ := content_ok (P := P) H.drew (hx.ext (Ext.drew base Z G w)) hcont
        have hself : content hp te.size (.ms b es.length 0 es.length) = some es := by
          simp only [content, hb]; simp [H.wgle _ _ _ _ _ hb]
        obtain ⟨_, old, hold, hos, horow⟩ := content_ok (P := P) H.drew (hs.ext (Ext.drew base Z G w)) hself
        have hbb : (2 * (es.length + xs.length) + 768) * te.bytes ≤ 2 ^ 48 := by
          have : (2 * (es.length + xs.length) + 768) * te.bytes = 2 * ((es.length + xs.length) * te.bytes) + 768 * te.bytes := by rw [Nat.add_mul, Nat.mul_assoc]
          omega
        simp only [Nat.sub_zero] at hold
        obtain ⟨newCap, rest, h1, h2, h3⟩ := run_append_new (P := P) (ty := ty) hu hu' hT c10 (base := a) (sLen := es.length) (sCap := cap) hn (by omega) hbb (by omega) hold ha' hos has'
        refine ⟨_, _, h3, OpPost.trans (Ext.drew base Z G w) ?_⟩
        have hr2 := RowRel.append horow hos hrow' rest
        obtain ⟨H', E'⟩ := HRel.growNew H.drew (xs := xs) (cap := newCap) (cs := old ++ arr' ++ rest) e hb (by omega) hg (fun g r hr => ((H.row b es te.size wg com hb).2 g r.1 r.2 hr).1) hr2 h2 (by omega)
        refine ⟨_, _, E', H', ?_⟩
        rw [hlx] at *
        have := Rel.ms_new (Z := Z) (w := w.drew.alloc (.cells (old ++ arr' ++ rest) e)) (sz := te.size) (Ghost.put_same G b (es.length + xs.length) (some w.drew.heap.size, newCap) te.size) h1
        simpa using this
  · cases h

/-- Ranging over a string. -/
theorem range_ok {base : Nat} {Z : Zone} {G : Ghost} {hp : Heap} {w : World} (H : HRel base Z G hp w) {t : TypeId} {s : List UInt8} (hu : P.underlying t = some .string) :
    ∃ v w', (Instr.range t (.string ⟨s.toArray⟩)).run P w = .ok v w' ∧ OpPost base Z G (hp ++ [.sit s 0]) w (.it hp.length) v w' := by
  obtain ⟨H', E'⟩ := H.pushSit s 0
  refine ⟨.pointer (some ⟨w.heap.size, 0, none⟩), _, ?_, _, _, E', H', .it hp.length w.heap.size 0 (Ghost.put_same G _ _ _ _)⟩
  unfold Instr.range
  simp [run_underlying hu]

theorem next_ok {base : Nat} {Z : Zone} {G : Ghost} {hp hp' : Heap} {w : World} (H : HRel base Z G hp w) {a r : AV} {v : Value} (ha : Rel Z G w a v) (ty : TypeId) (h : nextAV hp a = some (r, hp')) :
    ∃ u w', (Instr.next v true ty).run P w = .ok u w' ∧ OpPost base Z G hp' w r u w' := by
  unfold nextAV at h
  split at h
  rotate_left
  · cases h
  rename_i b
  split at h
  rotate_left
  · cases h
  rename_i s pos hb
  cases ha with
  | pure ha => cases ha
  | it _ c cap hg =>
    obtain ⟨_, c', hc', hbase, hh⟩ := H.sit b s pos hb 0 _ cap hg
    injection hc' with hc'; subst hc'
    have hs : (⟨s.toArray⟩ : ByteArray).size = s.length := rfl
    have hget : (getObj c).run P w = .ok (.stringIter ⟨s.toArray⟩ pos) w := by simp [getObj, Sem.run, hh]
    split at h
    · rename_i hlt
      injection h with h; injection h with h1 h2; subst h1; subst h2
      have hset : ∀ o, (setObj c o).run P w = .ok () { w with heap := w.heap.setIfInBounds c o } := by intro o; simp [setObj, Sem.run, hh]
      refine ⟨.tuple #[.bool true, goInt pos, .int .i32 (Utf8.decode ⟨s.toArray⟩ pos).1], { w with heap := w.heap.setIfInBounds c (.stringIter ⟨s.toArray⟩ (pos + (Utf8.decode ⟨s.toArray⟩ pos).2)) }, ?_, Z, G, ?_⟩
      · unfold Instr.next
        simp only [Sem.run_bind, hget, Result.andThen_ok, hs]
        rw [if_pos hlt]
        simp only [Sem.run_bind, hset, Result.andThen_ok]
        rfl
      · let w' : World := { w with heap := w.heap.setIfInBounds c (.stringIter ⟨s.toArray⟩ (pos + (Utf8.decode ⟨s.toArray⟩ pos).2)) }
        have hheap : ∀ k, k ≠ c → w'.heap[k]? = w.heap[k]? := by
          intro k hk
          show (w.heap.setIfInBounds c _)[k]? = _
          rw [Array.getElem?_setIfInBounds_ne (fun e => hk e.symm)]
        have hcl : c < w.heap.size := H.old hg
        have hself : w'.heap[c]? = some (.stringIter ⟨s.toArray⟩ (pos + (Utf8.decode ⟨s.toArray⟩ pos).2)) := by
          show (w.heap.setIfInBounds c _)[c]? = _
          simp [hcl]
        have hcell : ∀ k j, w'.cell? ⟨k, j, none⟩ = w.cell? ⟨k, j, none⟩ := by
          intro k j
          by_cases e : k = c
          · subst e; simp only [World.cell?, hself, hh]
          · exact World.cell?_of_block (w := w) (hheap k e)
        have EX : Ext base Z G w Z G w' := ⟨fun _ _ h => h, .refl G, ⟨rfl, rfl, rfl, by simp [w'], fun k hk => hheap k (by omega)⟩, fun c j _ => hcell c j, fun _ _ h => .inl h⟩
        have hbl := lt_of_get hb
        refine ⟨EX, ⟨by simpa [w'] using H.lo, fun c j h => by simpa [w'] using H.zone c j h, fun b' g r h => by simpa using H.dom b' g r h, fun b' es sz wg com he => ?_, fun b' s' pos' he g oc cap' hg' => ?_, H.excl, pend_set H.pend hg, fun b' es sz wg com he => ?_⟩, ?_⟩
        · rcases get_set hbl he with ⟨hne, he2⟩ | ⟨rfl, he2⟩
          · obtain ⟨hf, hr⟩ := H.row b' es sz wg com he2
            refine ⟨hf, fun g oc cap' hg' => ?_⟩
            obtain ⟨h1, h2, h3, h4, h5⟩ := hr g oc cap' hg'
            refine ⟨h1, h2, h3, h4, fun c2 hoc => ?_⟩
            obtain ⟨h6, h7, cs, t, h8, h9, h10⟩ := h5 c2 hoc
            subst hoc
            have : c2 ≠ c := by intro e; subst e; exact hne (H.excl _ _ _ _ _ _ _ hg' hg)
            exact ⟨h6, h7, cs, t, (hheap c2 this).trans h8, h9, fun hw i o hi ho => (h10 hw i o hi ho).ext EX⟩
          · cases he2
        · rcases get_set hbl he with ⟨hne, he2⟩ | ⟨rfl, he2⟩
          · obtain ⟨hg0, c2, hoc, h1, h2⟩ := H.sit b' s' pos' he2 g oc cap' hg'
            subst hoc
            have : c2 ≠ c := by intro e; subst e; exact hne (H.excl _ _ _ _ _ _ _ hg' hg)
            exact ⟨hg0, c2, rfl, h1, (hheap c2 this).trans h2⟩
          · injection he2 with e1 e2
            subst e1; subst e2
            obtain ⟨hg0, c2, hoc, h1, h2⟩ := H.sit _ _ _ hb g oc cap' hg'
            subst hg0
            rw [hg] at hg'
            injection hg' with hg'; injection hg' with e1 e2
            subst e1
            exact ⟨rfl, c, rfl, hbase, hself⟩
        · rcases get_set hbl he with ⟨hne, he2⟩ | ⟨rfl, he2⟩
          · exact H.wgle _ _ _ _ _ he2
          · cases he2
        · refine .tup _ _ rfl fun i hi => ?_
          match i, hi with
          | 0, _ => exact .bool' _
          | 1, _ => exact .int' _ _
          | 2, _ => exact .int' _ _
    · rename_i hge
      injection h with h; injection h with h1 h2; subst h1; subst h2
      refine ⟨.tuple #[.bool false], w, ?_, OpPost.same H ?_⟩
      · unfold Instr.next
        simp only [Sem.run_bind, hget, Result.andThen_ok, hs]
        rw [if_neg hge]; rfl
      · refine .tup _ _ rfl fun i hi => ?_
        match i, hi with
        | 0, _ => exact .bool' _
end Go.EV
/-
  An operation that is no call: the machine does what the evaluator says.
-/
set_option linter.unusedSimpArgs false
set_option linter.unusedVariables false
namespace Go.EV
open Go.RowKit
variable {E : Env} {P : Program}

/-- What is fixed while one call of a law runs: the world at its start. -/
structure Sit (w0 : World) (base : Nat) (Z : Zone) (w : World) : Prop where
  below : Below w0.heap.size w0 w
  old : ∀ c j, c < w0.heap.size → Z c j
  lo : w0.heap.size ≤ base
theorem Sit.ext {w0 : World} {base : Nat} {Z Z' : Zone} {G G' : Ghost} {w w' : World} (h : Sit w0 base Z w) (e : Ext base Z G w Z' G' w') : Sit w0 base Z' w' :=
  ⟨h.below.trans (e.below.mono h.lo), fun c j hc => e.zsub c j (h.old c j hc), h.lo⟩

def LRel (Z : Zone) (G : Ghost) (w : World) (as : List AV) (vs : Array Value) : Prop := as.length = vs.size ∧ ∀ i, i < as.length → Rel Z G w (as.getD i .undef) (vs.getD i Go.undef)
def LPRel (Z : Zone) (w : World) (as : List AV) (vs : Array Value) : Prop := as.length = vs.size ∧ ∀ i, i < as.length → PRel Z w (as.getD i .undef) (vs.getD i Go.undef)

/-- A function of values without own memory: called in any world that has kept the start's memory, it hands back r, and turns nothing that is there. -/
def PureOk (P : Program) (w0 : World) (f : FuncId) (args : List AV) (r : AV) : Prop :=
  ∀ (Z : Zone) (w : World) (vs : Array Value), Below w0.heap.size w0 w → (∀ c j, c < w0.heap.size → Z c j) → (∀ c j, Z c j → c < w.heap.size) → LPRel Z w args vs →
    Calls P f vs w fun e w' => ∃ v Z', e = .returned v ∧ Below w.heap.size w w' ∧ (∀ c j, Z c j → Z' c j) ∧ (∀ c j, Z' c j → Z c j ∨ w.heap.size ≤ c) ∧ (∀ c j, Z' c j → c < w'.heap.size) ∧ PRel Z' w' r v

structure EnvOk (E : Env) (P : Program) (w0 : World) : Prop where
  ti : ∀ t ti, E.ti t = some ti → TiOk P t ti
  fn : ∀ f d, E.fn f = some d → P.funcs[f]? = some d ∧ (d.name == "runtime.NumGoroutine") = false
  gl : ∀ g v, E.gl g = some v → ∃ (sz : Nat) (V : Nat → Value), 0 < sz ∧ v.fits sz = true ∧ ∀ o, o < sz → w0.cell? ⟨g, o, none⟩ = some (V o) ∧ PRel (fun c _ => c < w0.heap.size) w0 (v.cells.getD o .undef) (V o)
  lib : ∀ f args r, E.lib f args = some r → PureOk P w0 f args r ∧ ∃ d, P.funcs[f]? = some d ∧ d.body.isNone = false ∧ (d.name == "runtime.NumGoroutine") = false
  mix : P.follows .mixedOrders = true

theorem cell_lt {w : World} {c j : Nat} {v : Value} (h : w.cell? ⟨c, j, none⟩ = some v) : c < w.heap.size := World.block_lt_of_cell? (a := ⟨c, j, none⟩) (w := w) h

/-- Operands. -/
theorem opnd_ok {w0 : World} (hE : EnvOk E P w0) {base : Nat} {Z : Zone} {G : Ghost} {w : World} (S : Sit w0 base Z w) {D : Nat → Prop} {tm : List AV} {a : Act} (T : TRel Z G w D tm a.tmps) (x : Operand) (hx : ∀ t, x = .tmp t → ¬ D t) :
    Rel Z G w (opnd E tm x) (a.eval x) := by
  cases x with
  | tmp t => exact T.get t (hx t rfl)
  | const v => exact .pure (constAV_rel v)
  | func f => exact .pure (.fn f [] #[] rfl (fun i hi => by simp at hi))
  | global g =>
    simp only [opnd, Act.eval]
    cases hg : E.gl g with
    | none => exact .pure (.undef _)
    | some v =>
      obtain ⟨sz, V, hpos, hf, hV⟩ := hE.gl g v hg
      have hcell : ∀ o, o < sz → w.cell? ⟨g, o, none⟩ = some (V o) := fun o ho => by
        have h1 := (hV o ho).1
        rw [S.below.cell (p := ⟨g, o, none⟩) (cell_lt h1)]; exact h1
      have := PRel.ip (Z := Z) (w := w) [v] 0 0 sz g 0 (fun _ o => V o) (fun i hi => by
          have : i = 0 := by simp at hi; omega
          subst this; simpa using hf)
        (fun i o hi ho => by
          have : i = 0 := by simp at hi; omega
          subst this
          simp only [Nat.zero_mul, Nat.zero_add]
          exact ⟨hcell o ho, S.old _ _ (cell_lt (hV o ho).1)⟩)
        (fun i o hi ho => by
          have : i = 0 := by simp at hi; omega
          subst this
          simp only [List.getD_cons_zero]
          exact (hV o ho).2.mono (fun c j h => S.old c j h) (fun c j h => S.below.cell (p := ⟨c, j, none⟩) h))
      simpa using Rel.pure this

theorem run_v {s : Sem Value} {w w' : World} {v : Value} (h : s.run P w = .ok v w') : (do pure (Next.value (← s)) : Sem Next).run P w = .ok (.value v) w' := by
  simp only [Sem.run_bind, h, Result.andThen_ok, Sem.run_pure]

/-- What an operation that is no call comes to. -/
def OpGives (P : Program) (s : Sem Next) (w : World) (Q : Value → World → Prop) : Prop :=
  ∃ v w', (s.run P w = .ok (.value v) w' ∨ (s.run P w = .ok .skip w' ∧ v = Go.undef)) ∧ Q v w'
theorem OpGives.val {s : Sem Value} {w : World} {Q : Value → World → Prop} (h : ∃ v w', s.run P w = .ok v w' ∧ Q v w') : OpGives P (do pure (Next.value (← s))) w Q :=
  let ⟨v, w', h1, h2⟩ := h; ⟨v, w', .inl (run_v h1), h2⟩

theorem opnds_ok {w0 : World} (hE : EnvOk E P w0) {base : Nat} {Z : Zone} {G : Ghost} {w : World} (S : Sit w0 base Z w) {D : Nat → Prop} {tm : List AV} {a : Act} (T : TRel Z G w D tm a.tmps) (xs : Array Operand) (hx : ∀ t, .tmp t ∈ xs → ¬ D t) :
    LRel Z G w (xs.toList.map (opnd E tm)) (xs.map a.eval) := by
  refine ⟨by simp, fun i hi => ?_⟩
  have hi' : i < xs.size := by simpa using hi
  have h1 : (xs.toList.map (opnd E tm)).getD i .undef = opnd E tm xs[i] := by simp [List.getD_eq_getElem?_getD, hi']
  have h2 : (xs.map a.eval).getD i Go.undef = a.eval xs[i] := by simp [Array.getD, hi']
  rw [h1, h2]
  exact opnd_ok hE S T _ fun t ht => hx t (by rw [← ht]; exact Array.getElem_mem hi')

theorem orel_map {w0 : World} (hE : EnvOk E P w0) {base : Nat} {Z : Zone} {G : Ghost} {w : World} (S : Sit w0 base Z w) {D : Nat → Prop} {tm : List AV} {a : Act} (T : TRel Z G w D tm a.tmps) (x : Option Operand) (hx : ∀ t, x = some (.tmp t) → ¬ D t) :
    ORel Z G w (x.map (opnd E tm)) (x.map a.eval) := by
  cases x with
  | none => trivial
  | some x => exact opnd_ok hE S T x fun t ht => hx t (by rw [ht])

theorem parts_ok {w0 : World} (hE : EnvOk E P w0) {base : Nat} {Z : Zone} {G : Ghost} {w : World} (S : Sit w0 base Z w) {D : Nat → Prop} {tm : List AV} {a : Act} (T : TRel Z G w D tm a.tmps) (ps : Array (Nat × Operand)) (hx : ∀ t, .tmp t ∈ ps.toList.map (·.2) → ¬ D t) (qs : Array (Nat × Value))
    (hq : qs = ps.map fun p => (p.1, a.eval p.2)) :
    (ps.toList.map fun p => (p.1, opnd E tm p.2)).length = qs.toList.length ∧
    ∀ i (h1 : i < (ps.toList.map fun p => (p.1, opnd E tm p.2)).length) (h2 : i < qs.toList.length),
      (ps.toList.map fun p => (p.1, opnd E tm p.2))[i].1 = qs.toList[i].1 ∧ Rel Z G w (ps.toList.map fun p => (p.1, opnd E tm p.2))[i].2 qs.toList[i].2 := by
  subst hq
  refine ⟨by simp, fun i h1 h2 => ?_⟩
  have hi : i < ps.size := by simpa using h1
  simp only [List.getElem_map, Array.toList_map, Array.getElem_toList]
  refine ⟨trivial, opnd_ok hE S T _ fun t ht => hx t ?_⟩
  rw [← ht]
  exact List.mem_map.2 ⟨ps[i], by simp, rfl⟩

theorem arr1 {α : Type} {xs : Array α} {x : α} (h : xs.toList = [x]) : xs = #[x] := Array.ext' h
theorem arr2 {α : Type} {xs : Array α} {x y : α} (h : xs.toList = [x, y]) : xs = #[x, y] := Array.ext' h
theorem LRel.one {Z : Zone} {G : Ghost} {w : World} {x : AV} {vs : Array Value} (h : LRel Z G w [x] vs) : ∃ v, vs = #[v] ∧ Rel Z G w x v := by
  obtain ⟨hl, hr⟩ := h
  obtain ⟨v, hv⟩ : ∃ v, vs.toList = [v] := List.length_eq_one_iff.1 (by simpa using hl.symm)
  have := arr1 hv
  subst this
  exact ⟨v, rfl, by simpa using hr 0 (by simp)⟩
theorem LRel.two {Z : Zone} {G : Ghost} {w : World} {x y : AV} {vs : Array Value} (h : LRel Z G w [x, y] vs) : ∃ u v, vs = #[u, v] ∧ Rel Z G w x u ∧ Rel Z G w y v := by
  obtain ⟨hl, hr⟩ := h
  obtain ⟨u, v, hv⟩ : ∃ u v, vs.toList = [u, v] := by
    have hlen : vs.toList.length = 2 := by simpa using hl.symm
    match hh : vs.toList, hlen with
    | [u, v], _ => exact ⟨u, v, rfl⟩
  have := arr2 hv
  subst this
  exact ⟨u, v, rfl, by simpa using hr 0 (by simp), by simpa using hr 1 (by simp)⟩

theorem builtin_ok (hT : ∀ t ti, E.ti t = some ti → TiOk P t ti) {base : Nat} {Z : Zone} {G : Ghost} {hp hp' : Heap} {w : World} (H : HRel base Z G hp w) {b : Builtin} {ts : Array TypeId} {ty : TypeId} {consts : Array Bool} {as : List AV} {vs : Array Value} {r : AV}
    (hl : LRel Z G w as vs) (h : builtinAV E hp b ts.toList as = some (r, hp')) : OpGives P (builtin b ts ty consts vs) w (fun v w' => OpPost base Z G hp' w r v w') := by
  have ret : ∀ {x : Option AV} {s : Sem Value}, x.map (·, hp) = some (r, hp') → (∀ y, x = some y → ∃ v, s.run P w = .ok v w ∧ Rel Z G w y v) → OpGives P (do pure (Next.value (← s))) w (fun v w' => OpPost base Z G hp' w r v w') := by
    intro x s hx hs
    cases x with
    | none => cases hx
    | some y =>
      injection hx with hx; injection hx with h1 h2; subst h1; subst h2
      obtain ⟨v, h1, h2⟩ := hs y rfl
      exact OpGives.val ⟨v, w, h1, OpPost.same H h2⟩
  unfold builtinAV at h
  split at h
  · rename_i t x hts
    have := arr1 hts; subst this
    obtain ⟨v, rfl, hx⟩ := hl.one
    exact ret h fun y hy => lenAV_ok hT hx hy
  · rename_i t u x y hts
    have := arr2 hts; subst this
    obtain ⟨v1, v2, rfl, hx, hy⟩ := hl.two
    exact OpGives.val (append_ok H hT hx hy h)
  · rename_i x y
    obtain ⟨v1, v2, rfl, hx, hy⟩ := hl.two
    exact ret h fun z hz => minAV_ok hx hy hz
  · rename_i x y
    obtain ⟨v1, v2, rfl, hx, hy⟩ := hl.two
    exact ret h fun z hz => maxAV_ok hx hy hz
  · cases h

theorem HRel.afterPure {base : Nat} {Z Z' : Zone} {G : Ghost} {hp : Heap} {w w' : World} (H : HRel base Z G hp w) (hb : Below w.heap.size w w') (h1 : ∀ c j, Z c j → Z' c j) (h2 : ∀ c j, Z' c j → Z c j ∨ w.heap.size ≤ c) (h3 : ∀ c j, Z' c j → c < w'.heap.size) :
    HRel base Z' G hp w' ∧ Ext base Z G w Z' G w' := by
  have hc : ∀ c j, Z c j → w'.cell? ⟨c, j, none⟩ = w.cell? ⟨c, j, none⟩ := fun c j h => hb.cell (p := ⟨c, j, none⟩) (H.zone c j h)
  have H1 := H.carry hb.size hc (fun b g c cap hg => hb.block c (H.old hg))
  have EX : Ext base Z G w Z' G w' := ⟨h1, .refl G, hb.mono H.lo, hc, fun c j h => (h2 c j h).imp id (fun h => Nat.le_trans H.lo h)⟩
  refine ⟨⟨H1.lo, h3, H1.dom, fun b es sz wg com he => ?_, H1.sit, H1.excl, H1.pend, H1.wgle⟩, EX⟩
  obtain ⟨hf, hr⟩ := H1.row b es sz wg com he
  refine ⟨hf, fun g oc cap hg => ?_⟩
  obtain ⟨k1, k2, k3, k4, k5⟩ := hr g oc cap hg
  refine ⟨k1, k2, k3, k4, fun c hoc => ?_⟩
  obtain ⟨k6, k7, cs, t, k8, k9, k10⟩ := k5 c hoc
  subst hoc
  refine ⟨k6, fun j hz => ?_, cs, t, k8, k9, fun hw i o hi ho => (k10 hw i o hi ho).mono h1 (.refl G) (fun _ _ _ => rfl)⟩
  rcases h2 c j hz with h | h
  · exact k7 j h
  · exact absurd (H.old hg) (by omega)

/-- Conversions. -/
theorem convAV_post (hE : ∀ t ti, E.ti t = some ti → TiOk P t ti) {base : Nat} {Z : Zone} {G : Ghost} {hp : Heap} {w : World} (H : HRel base Z G hp w) {s d : TypeId} {x r : AV} {a : Value} (hx : Rel Z G w x a) (h : convAV E s d x = some r) :
    ∃ v w', (convert s d a).run P w = .ok v w' ∧ OpPost base Z G hp w r v w' := by
  unfold convAV at h
  split at h
  rotate_left
  · obtain ⟨v, h1, h2⟩ := convPlain_ok hE hx h
    exact ⟨v, w, h1, OpPost.same H h2⟩
  rename_i bs hb
  injection h with h; subst h
  unfold convBytes at hb
  split at hb
  rotate_left
  · cases hb
  rename_i e _ _ _ _ bs' hs hd
  split at hb
  rotate_left
  · cases hb
  rename_i he
  injection hb with hb; subst hb
  cases hx.str_inv
  have hrun := Lib.run_convert_string_bytes (P := P) w s d e ⟨bs'.toArray⟩ (hE _ _ hs).desc (hE _ _ hd).desc (hE _ _ he).desc
  have hbel := Lib.bytesWorld_below w e ⟨bs'.toArray⟩
  have hsz := Lib.bytesWorld_size w e ⟨bs'.toArray⟩
  refine ⟨_, _, hrun, fun c j => Z c j ∨ c = w.heap.size, G, ?_⟩
  obtain ⟨H', EX⟩ := H.afterPure (Z' := fun c j => Z c j ∨ c = w.heap.size) hbel (fun c j h => .inl h) (fun c j h => h.imp id fun h => by omega)
    (fun c j h => by
      rcases h with h | h
      · have := H.zone c j h; omega
      · omega)
  refine ⟨EX, H', .pure ?_⟩
  have hcap : bs'.length ≤ grownCap w bs'.length 0 e := grownCap_ge w bs'.length 0 e
  have hg : ∀ i, i < bs'.length → (bs'.map byteAV).getD i .undef = byteAV (bs'.getD i 0) := fun i hi => by simp [List.getD_eq_getElem?_getD, hi]
  have hl : (bs'.map byteAV).length = bs'.length := by simp
  have key := PRel.sl (Z := fun c j => Z c j ∨ c = w.heap.size) (w := Lib.bytesWorld w e ⟨bs'.toArray⟩) (bs'.map byteAV) 1 w.heap.size 0 (grownCap w bs'.length 0 e) (fun i _ => .int .u8 (bs'.getD i 0).toNat) (by rw [hl]; exact hcap)
    (fun i hi => by rw [hg i (by rwa [hl] at hi)]; rfl)
    (fun i o hi ho => by
      have ho : o = 0 := by omega
      subst ho
      have := Lib.bytesWorld_cell w e ⟨bs'.toArray⟩ i (show i < bs'.length from by rwa [hl] at hi)
      exact ⟨by simpa using this, .inr rfl⟩)
    (fun i o hi ho => by
      have ho : o = 0 := by omega
      subst ho
      rw [hg i (by rwa [hl] at hi)]
      exact .int _ _)
  rw [hl] at key
  exact key

theorem evOp_ok {w0 : World} (hE : EnvOk E P w0) {base : Nat} {Z : Zone} {G : Ghost} {hp hp' : Heap} {w : World} (S : Sit w0 base Z w) (H : HRel base Z G hp w) {D : Nat → Prop} {tm : List AV} {a : Act} (T : TRel Z G w D tm a.tmps) {o : Oper} {r : AV}
    (hD : ∀ t, .tmp t ∈ o.op.operands → ¬ D t) (h : evOp E tm hp o.op = some (r, hp')) : OpGives P (execOp a.eval o) w (fun v w' => OpPost base Z G hp' w r v w') := by
  have hT := hE.ti
  obtain ⟨dst, op, ty, pos, after, guard⟩ := o
  simp only at h hD
  have O : ∀ x, (∀ t, x = .tmp t → .tmp t ∈ op.operands) → Rel Z G w (opnd E tm x) (a.eval x) := fun x hx => opnd_ok hE S T x fun t ht => hD t (hx t ht)
  have ret : ∀ {x : Option AV} {s : Sem Value}, x.map (·, hp) = some (r, hp') → (∀ y, x = some y → ∃ v, s.run P w = .ok v w ∧ Rel Z G w y v) → OpGives P (do pure (Next.value (← s))) w (fun v w' => OpPost base Z G hp' w r v w') := by
    intro x s hx hs
    cases x with
    | none => cases hx
    | some y =>
      injection hx with hx; injection hx with h1 h2; subst h1; subst h2
      obtain ⟨v, h1, h2⟩ := hs y rfl
      exact OpGives.val ⟨v, w, h1, OpPost.same H h2⟩
  unfold evOp at h
  split at h
  · -- move
    rename_i x
    injection h with h; injection h with h1 h2; subst h1; subst h2
    exact ⟨_, w, .inl rfl, OpPost.same H (O x (fun t ht => by simp [Op.operands, ht]))⟩
  · rename_i x
    injection h with h; injection h with h1 h2; subst h1; subst h2
    exact ⟨_, w, .inl rfl, OpPost.same H (O x (fun t ht => by simp [Op.operands, ht]))⟩
  · -- pick
    rename_i c x y
    have hc := O c (fun t ht => by simp [Op.operands, ht])
    split at h
    · rename_i hb
      rw [hb] at hc
      injection h with h; injection h with h1 h2; subst h1; subst h2
      exact ⟨a.eval x, w, .inl (by simp [execOp, hc.bool_inv, asBool]), OpPost.same H (O x (fun t ht => by simp [Op.operands, ht]))⟩
    · rename_i hb
      rw [hb] at hc
      injection h with h; injection h with h1 h2; subst h1; subst h2
      exact ⟨a.eval y, w, .inl (by simp [execOp, hc.bool_inv, asBool]), OpPost.same H (O y (fun t ht => by simp [Op.operands, ht]))⟩
    · cases h
  · -- alloc
    rename_i t
    split at h
    · rename_i ti ht
      split at h
      · rename_i hc
        injection h with h; injection h with h1 h2; subst h1; subst h2
        exact OpGives.val (alloc_ok H (hT _ _ ht) hc.1 hc.2)
      · cases h
    · cases h
  · -- box
    rename_i t x
    split at h
    · rename_i ti ht
      split at h
      · rename_i hc
        injection h with h; injection h with h1 h2; subst h1; subst h2
        exact OpGives.val (box_ok H (O x (fun t ht => by simp [Op.operands, ht])) hc.1 hc.2)
      · cases h
    · cases h
  · -- build
    rename_i t ps
    obtain ⟨h1, h2⟩ := parts_ok hE S T ps (fun t ht => hD t (by simpa [Op.operands] using ht)) (ps.map fun (i, x) => (i, a.eval x)) rfl
    exact ret h fun y hy => build_ok hT h1 h2 hy
  · -- buildSlice
    rename_i t n ps
    obtain ⟨h1, h2⟩ := parts_ok hE S T ps (fun t ht => hD t (by simpa [Op.operands] using ht)) (ps.map fun (i, x) => (i, a.eval x)) rfl
    exact OpGives.val (buildSlice_ok H hT h1 h2 h)
  · rename_i t x
    exact ret h fun y hy => load_ok H hT (O x (fun t ht => by simp [Op.operands, ht])) hy
  · -- store
    rename_i t x y
    cases hs : storeAV E hp t (opnd E tm x) (opnd E tm y) with
    | none => rw [hs] at h; cases h
    | some hp1 =>
      rw [hs] at h; injection h with h; injection h with h1 h2; subst h1; subst h2
      obtain ⟨w', h1, h2, h3⟩ := store_ok H hT (O x (fun t ht => by simp [Op.operands, ht])) (O y (fun t ht => by simp [Op.operands, ht])) hs
      refine ⟨Go.undef, w', .inr ⟨?_, rfl⟩, Z, G, h3, h2, .pure (.tup [] #[] rfl (fun i hi => by simp at hi))⟩
      simp only [execOp, Sem.run_bind, h1, Result.andThen_ok, Sem.run_pure]
  · -- nilCheck
    rename_i x
    have hx := O x (fun t ht => by simp [Op.operands, ht])
    split at h
    · rename_i es i o he
      rw [he] at hx
      injection h with h; injection h with h1 h2; subst h1; subst h2
      obtain ⟨p, hp⟩ := hx.ip_inv
      exact ⟨a.eval x, w, .inl (by simp [execOp, hp]), OpPost.same H hx⟩
    · rename_i b g i o he
      rw [he] at hx
      injection h with h; injection h with h1 h2; subst h1; subst h2
      obtain ⟨p, hp⟩ := hx.mp_inv
      exact ⟨a.eval x, w, .inl (by simp [execOp, hp]), OpPost.same H hx⟩
    · rename_i f caps he
      rw [he] at hx
      injection h with h; injection h with h1 h2; subst h1; subst h2
      obtain ⟨vs, hp, _⟩ := hx.fn_inv
      exact ⟨a.eval x, w, .inl (by simp [execOp, hp]), OpPost.same H hx⟩
    · cases h
  · rename_i op t x y yt
    exact ret h fun z hz => binAV_ok hT (O x (fun t ht => by simp [Op.operands, ht])) (O y (fun t ht => by simp [Op.operands, ht])) hz
  · rename_i op t x
    exact ret h fun z hz => unAV_ok (O x (fun t ht => by simp [Op.operands, ht])) hz
  · rename_i s d x
    cases hz : convAV E s d (opnd E tm x) with
    | none => rw [hz] at h; cases h
    | some z =>
      rw [hz] at h
      injection h with h; injection h with h1 h2; subst h1; subst h2
      exact OpGives.val (convAV_post hT H (O x (fun t ht => by simp [Op.operands, ht])) hz)
  · -- makeInterface
    rename_i t x
    split at h
    · rename_i ti ht
      split at h
      · cases h
      · rename_i d hnd
        injection h with h; injection h with h1 h2; subst h1; subst h2
        refine OpGives.val ⟨.iface t (a.eval x), w, ?_, OpPost.same H (.iface _ _ _ (O x (fun t ht => by simp [Op.operands, ht])))⟩
        simp only [Instr.makeInterface, Sem.run_bind, run_underlying (hT _ _ ht).desc, Result.andThen_ok]
        rfl
    · cases h
  · -- makeFunc
    rename_i f first caps
    split at h
    · rename_i hs
      injection h with h; injection h with h1 h2; subst h1; subst h2
      have : first = #[] := Array.eq_empty_of_size_eq_zero hs
      subst this
      have hl := opnds_ok hE S T caps (fun t ht => hD t (by simpa [Op.operands] using ht))
      refine OpGives.val ⟨.func (.func f) #[] (caps.map a.eval), w, by simp [Instr.makeFunc], OpPost.same H (.fn f _ _ hl.1 hl.2)⟩
    · cases h
  · rename_i t l c
    exact OpGives.val (makeSlice_ok H hT (O l (fun t ht => by simp [Op.operands, ht])) (O c (fun t ht => by simp [Op.operands, ht])) h)
  · rename_i t x lo hi mx
    exact ret h fun z hz => sliceAV_ok H hT (O x (fun t ht => by simp [Op.operands, ht]))
      (orel_map hE S T lo fun t ht => hD t (by simp [Op.operands, ht])) (orel_map hE S T hi fun t ht => hD t (by simp [Op.operands, ht])) (orel_map hE S T mx fun t ht => hD t (by simp [Op.operands, ht])) hz
  · rename_i t x f
    exact ret h fun z hz => fieldAddr_ok hT (O x (fun t ht => by simp [Op.operands, ht])) hz
  · rename_i t x f
    exact ret h fun z hz => field_ok hT (O x (fun t ht => by simp [Op.operands, ht])) hz
  · rename_i t x i
    exact ret h fun z hz => indexAddr_ok H hT (O x (fun t ht => by simp [Op.operands, ht])) (O i (fun t ht => by simp [Op.operands, ht])) hz
  · rename_i t x i
    exact ret h fun z hz => index_ok hT (O x (fun t ht => by simp [Op.operands, ht])) (O i (fun t ht => by simp [Op.operands, ht])) hz
  · -- range
    rename_i t x
    split at h
    · rename_i ti ht
      split at h
      · rename_i s hd hs
        injection h with h; injection h with h1 h2; subst h1; subst h2
        have hx := O x (fun t ht => by simp [Op.operands, ht])
        rw [hs] at hx
        have hu := (hT _ _ ht).desc
        rw [hd] at hu
        obtain ⟨v, w', h1, h2⟩ := range_ok H (s := s) hu
        exact OpGives.val ⟨v, w', by rw [hx.str_inv]; exact h1, h2⟩
      · cases h
    · cases h
  · -- next
    rename_i x
    exact OpGives.val (next_ok H (O x (fun t ht => by simp [Op.operands, ht])) ty h)
  · -- extract
    rename_i x i
    have hx := O x (fun t ht => by simp [Op.operands, ht])
    split at h
    · rename_i vs he
      rw [he] at hx
      obtain ⟨us, hu, hl, hr⟩ := hx.tup_inv
      refine ret h fun z hz => ?_
      obtain ⟨hz1, hz2⟩ := getD_of_get hz
      refine ⟨us.getD i Go.undef, ?_, by have := hr i hz2; rwa [hz1] at this⟩
      simp only [Instr.extract, hu, Array.getD_of_lt us i Go.undef (show i < us.size by omega), Sem.run_pure]
    · cases h
  · -- builtin
    rename_i b args ts
    have hl := opnds_ok hE S T args (fun t ht => hD t (by simpa [Op.operands, Call.operands] using ht))
    have := builtin_ok (ty := ty) (consts := args.map fun | .const _ => true | _ => false) hT H hl h
    obtain ⟨v, w', h1, h2⟩ := this
    refine ⟨v, w', ?_, h2⟩
    have he : (execOp a.eval ⟨dst, .call ⟨.builtin b, args, ts⟩, ty, pos, after, guard⟩).run P w = (builtin b ts ty (args.map fun | .const _ => true | _ => false) (args.map a.eval)).run P w := by
      simp only [execOp, Go.resolve, Sem.run_bind, Sem.run_pure, Result.andThen_ok, invoke]
      rfl
    rw [he]; exact h1
  · cases h
end Go.EV
/-
  What is let go, what is forgotten, and what is handed to a function without own memory.
-/
set_option linter.unusedSimpArgs false
set_option linter.unusedVariables false
namespace Go.EV
open Go.RowKit
variable {E : Env} {P : Program}

def Ghost.restrict (G : Ghost) (n : Nat) : Ghost := ⟨fun b g => if b < n then G.row b g else none, G.sz, fun b => if b < n then G.pend b else none⟩
theorem Ghost.restrict_row {G : Ghost} {n b g : Nat} {r : Option Nat × Nat} (h : (G.restrict n).row b g = some r) : b < n ∧ G.row b g = some r := by
  simp only [Ghost.restrict] at h
  split at h
  · rename_i hb; exact ⟨hb, h⟩
  · cases h
theorem Ghost.restrict_le {G0 G : Ghost} {n : Nat} (h : G0.le G) (hd : ∀ b g r, G0.row b g = some r → b < n) (hd' : ∀ b z, G0.pend b = some z → b < n) : G0.le (G.restrict n) := by
  refine ⟨fun b g r hr => ?_, fun b g r hr => h.sz b g r hr, fun b z hz => by simp only [Ghost.restrict]; rw [if_pos (hd' b z hz)]; exact h.pend b z hz⟩
  simp only [Ghost.restrict]
  rw [if_pos (hd b g r hr)]
  exact h.row b g r hr

theorem allUnder_getD {n : Nat} : ∀ {cs : List AV}, AV.under.allBelow n cs = true → ∀ i, (cs.getD i .undef).under n = true
  | [], _, i => by simp [AV.under]
  | v :: vs, h, i => by
    simp only [AV.under.allBelow, Bool.and_eq_true] at h
    cases i with
    | zero => simpa using h.1
    | succ i => simpa using allUnder_getD h.2 i

theorem Rel.restrict {Z : Zone} {G : Ghost} {w : World} {a : AV} {v : Value} {n : Nat} (h : Rel Z G w a v) (hu : a.under n = true) : Rel Z (G.restrict n) w a v := by
  have row : ∀ b g r, G.row b g = some r → b < n → (G.restrict n).row b g = some r := by
    intro b g r h hb; simp only [Ghost.restrict]; rw [if_pos hb]; exact h
  induction h with
  | pure h => exact .pure h
  | agg cs vs hl _ ih => exact .agg cs vs hl fun i hi => ih i hi (allUnder_getD (by simpa [AV.under] using hu) i)
  | tup cs vs hl _ ih => exact .tup cs vs hl fun i hi => ih i hi (allUnder_getD (by simpa [AV.under] using hu) i)
  | fn f cs vs hl _ ih => exact .fn f cs vs hl fun i hi => ih i hi (allUnder_getD (by simpa [AV.under] using hu) i)
  | iface t a v _ ih => exact .iface t a v (ih (by simpa [AV.under] using hu))
  | ms b g off len oc cap a h0 h1 h2 ha hn => exact .ms b g off len oc cap a (row _ _ _ h0 (by simpa [AV.under] using hu)) h1 h2 ha hn
  | mp b g i o c cap h0 hi => exact .mp (G := G.restrict n) b g i o c cap (row _ _ _ h0 (by simpa [AV.under] using hu)) hi
  | it b c cap h0 => exact .it b c cap (row _ _ _ h0 (by simpa [AV.under] using hu))

theorem under_cells {n : Nat} {a : AV} (h : a.under n = true) (o : Nat) : (a.cells.getD o .undef).under n = true := by
  have single : a.cells = [a] → (a.cells.getD o .undef).under n = true := by
    intro e; rw [e]
    cases o with
    | zero => simpa using h
    | succ o => simp [AV.under]
  cases a with
  | agg cs => exact allUnder_getD (cs := cs) (by simpa [AV.under] using h) o
  | _ => exact single rfl

theorem HRel.restrict {base : Nat} {Z : Zone} {G : Ghost} {hp : Heap} {w : World} (H : HRel base Z G hp w) {n : Nat} (hu : (hp.take n).all (HB.under n) = true) : HRel base Z (G.restrict n) (hp.take n) w := by
  have get : ∀ {b : Nat} {x : HB}, (hp.take n)[b]? = some x → b < n ∧ hp[b]? = some x := by
    intro b x h
    rw [List.getElem?_take] at h
    split at h
    · rename_i hb; exact ⟨hb, h⟩
    · cases h
  have hall : ∀ {b : Nat} {x : HB}, (hp.take n)[b]? = some x → x.under n = true := by
    intro b x h
    simp only [List.all_eq_true] at hu
    exact hu x (List.mem_of_getElem? h)
  refine ⟨H.lo, H.zone, fun b g r h => ?_, fun b es sz wg com he => ?_, fun b s pos he g oc cap hg => ?_, fun b b' g g' c cap cap' h1 h2 => ?_, fun b z sz hz => ?_, fun b es sz wg com he => H.wgle _ _ _ _ _ (get he).2⟩
  · obtain ⟨h1, h2⟩ := Ghost.restrict_row h
    have := H.dom b g r h2
    simp; omega
  · obtain ⟨h1, h2⟩ := get he
    obtain ⟨hf, hr⟩ := H.row b es sz wg com h2
    refine ⟨hf, fun g oc cap hg => ?_⟩
    obtain ⟨_, hg⟩ := Ghost.restrict_row hg
    obtain ⟨k1, k2, k3, k4, k5⟩ := hr g oc cap hg
    refine ⟨k1, k2, k3, k4, fun c hoc => ?_⟩
    obtain ⟨k6, k7, cs, t, k8, k9, k10⟩ := k5 c hoc
    refine ⟨k6, k7, cs, t, k8, k9, fun hw i o hi ho => (k10 hw i o hi ho).restrict ?_⟩
    have := hall he
    simp only [HB.under, List.all_eq_true] at this
    refine under_cells (this _ ?_) o
    have hil : i < es.length := by omega
    rw [show es.getD i .undef = es[i] by simp [List.getD_eq_getElem?_getD, hil]]
    exact List.getElem_mem hil
  · obtain ⟨h1, h2⟩ := get he
    exact H.sit b s pos h2 g oc cap (Ghost.restrict_row hg).2
  · exact H.excl _ _ _ _ _ _ _ (Ghost.restrict_row h1).2 (Ghost.restrict_row h2).2
  · simp only [Ghost.restrict] at hz ⊢
    split at hz
    · rename_i hb
      obtain ⟨k1, k2⟩ := H.pend b z sz hz
      exact ⟨by rw [List.getElem?_take, if_pos hb]; exact k1, fun g => by rw [if_pos hb]; exact k2 g⟩
    · cases hz

theorem letGo_ok {base : Nat} {Z : Zone} {G : Ghost} {hp : Heap} {w : World} (H : HRel base Z G hp w) (n : Nat) (as : List AV) :
    ∃ G', HRel base Z G' (letGo n as hp) w ∧ (∀ a v, a ∈ as → Rel Z G w a v → Rel Z G' w a v) ∧ ∀ G0 : Ghost, G0.le G → (∀ b g r, G0.row b g = some r → b < n) → (∀ b z, G0.pend b = some z → b < n) → G0.le G' := by
  unfold letGo
  split
  · rename_i h
    simp only [Bool.and_eq_true, List.all_eq_true] at h
    exact ⟨G.restrict n, H.restrict (by simpa [List.all_eq_true] using h.2), fun a v ha hr => hr.restrict (h.1 a ha), fun G0 h0 hd hd' => Ghost.restrict_le h0 hd hd'⟩
  · exact ⟨G, H, fun _ _ _ h => h, fun _ h _ _ => h⟩

theorem keepLive_len (live : List Nat) : ∀ (i : Nat) (tm : List AV), (keepLive live i tm).length = tm.length
  | _, [] => rfl
  | i, v :: vs => by simp [keepLive, keepLive_len live (i + 1) vs]
theorem keepLive_get (live : List Nat) : ∀ (i : Nat) (tm : List AV) (j : Nat), (keepLive live i tm).getD j .undef = tm.getD j .undef ∨ (keepLive live i tm).getD j .undef = .undef
  | _, [], j => by simp [keepLive]
  | i, v :: vs, j => by
    cases j with
    | zero => simp only [keepLive, List.getD_cons_zero]; split
              · exact .inl rfl
              · exact .inr rfl
    | succ j => simpa [keepLive] using keepLive_get live (i + 1) vs j

theorem normSt_ok {base : Nat} {Z : Zone} {G : Ghost} {w : World} {st : St} {a : Act} (H : HRel base Z G st.hp w) {D : Nat → Prop} (T : TRel Z G w D st.tm a.tmps) (live : List Nat) (n : Nat) :
    ∃ G', HRel base Z G' (normSt live n st).hp w ∧ TRel Z G' w D (normSt live n st).tm a.tmps ∧ ∀ G0 : Ghost, G0.le G → (∀ b g r, G0.row b g = some r → b < n) → (∀ b z, G0.pend b = some z → b < n) → G0.le G' := by
  obtain ⟨G', h1, h2, h3⟩ := letGo_ok H n (keepLive live 0 st.tm)
  refine ⟨G', h1, ⟨by rw [normSt, keepLive_len]; exact T.len, fun i hi hd => ?_⟩, h3⟩
  have hi' : i < (keepLive live 0 st.tm).length := hi
  rcases keepLive_get live 0 st.tm i with e | e
  · refine h2 _ _ ?_ ?_
    · rw [show (normSt live n st).tm.getD i .undef = (keepLive live 0 st.tm)[i] by simp [normSt, List.getD_eq_getElem?_getD, hi']]
      exact List.getElem_mem hi'
    · show Rel Z G w ((keepLive live 0 st.tm).getD i .undef) _
      rw [e]; exact T.rel i (by rw [keepLive_len] at hi'; exact hi') hd
  · show Rel Z G' w ((keepLive live 0 st.tm).getD i .undef) _
    rw [e]; exact .pure (.undef _)

theorem TRel.set {Z : Zone} {G : Ghost} {w : World} {D : Nat → Prop} {tm : List AV} {tmps : Array Value} (T : TRel Z G w D tm tmps) {d : Nat} {x : AV} {v : Value} (h : Rel Z G w x v) : TRel Z G w D (tm.set d x) (tmps.setIfInBounds d v) := by
  refine ⟨by simpa using T.len, fun i hi hd => ?_⟩
  have hi' : i < tm.length := by simpa using hi
  have hl := T.len
  by_cases e : d = i
  · subst e
    have h1 : (tm.set d x).getD d .undef = x := by simp [List.getD_eq_getElem?_getD, hi']
    have h2 : (tmps.setIfInBounds d v).getD d Go.undef = v := by simp [Array.getD, show d < tmps.size by omega]
    rw [h1, h2]; exact h
  · have h1 : (tm.set d x).getD i .undef = tm.getD i .undef := by simp [List.getD_eq_getElem?_getD, List.getElem?_set_ne e]
    have h2 : (tmps.setIfInBounds d v).getD i Go.undef = tmps.getD i Go.undef := by
      rw [Array.getD_eq_getD_getElem?, Array.getD_eq_getD_getElem?, Array.getElem?_setIfInBounds_ne e]
    rw [h1, h2]; exact T.rel i hi' hd

theorem HRel.pushNil {base : Nat} {Z : Zone} {G : Ghost} {hp : Heap} {w : World} (H : HRel base Z G hp w) (sz : Nat) :
    HRel base Z (G.put hp.length 0 (none, 0) sz) (hp ++ [.row [] sz 0 0]) w ∧ G.le (G.put hp.length 0 (none, 0) sz) := by
  have hnone : ∀ g, G.row hp.length g = none := by
    intro g
    cases h : G.row hp.length g with
    | none => rfl
    | some r => exact absurd (H.dom _ _ _ h) (Nat.lt_irrefl _)
  have hle : G.le (G.put hp.length 0 (none, 0) sz) := Ghost.put_le (hnone _) (fun g r h => by rw [hnone] at h; cases h)
  refine ⟨⟨H.lo, H.zone, fun b g r h => ?_, fun b es' sz' wg' com' he => ?_, fun b s pos he g oc cap' hg => ?_, fun b b' g g' c cap1 cap2 h1 h2 => ?_, pend_append H.pend rfl, fun b es' sz' wg' com' he => ?_⟩, hle⟩
  · simp only [List.length_append, List.length_singleton]
    rcases Ghost.put_row h with ⟨rfl, _, _⟩ | h
    · omega
    · have := H.dom _ _ _ h; omega
  · rcases get_append he with ⟨hl, he2⟩ | ⟨rfl, he2⟩
    · obtain ⟨hf', hr'⟩ := H.row b es' sz' wg' com' he2
      refine ⟨hf', fun g oc cap' hg => ?_⟩
      have hg2 : G.row b g = some (oc, cap') := by
        rcases Ghost.put_row hg with ⟨rfl, _, _⟩ | h
        · omega
        · exact h
      obtain ⟨h1, h2, h3, h4, h5⟩ := hr' g oc cap' hg2
      refine ⟨(hle.sz _ _ _ hg2).trans h1, h2, h3, h4, fun c hoc => ?_⟩
      obtain ⟨h6, h7, cs', t', h8, h9, h10⟩ := h5 c hoc
      exact ⟨h6, h7, cs', t', h8, h9, fun hw i o hi ho => (h10 hw i o hi ho).mono (fun _ _ h => h) hle (fun _ _ _ => rfl)⟩
    · injection he2 with e1 e2 e3 e4
      subst e1; subst e2; subst e3; subst e4
      refine ⟨fun i hi => by simp at hi, fun g oc cap' hg => ?_⟩
      rcases Ghost.put_row hg with ⟨_, rfl, hrr⟩ | hg2
      · injection hrr with e1 e2
        subst e1; subst e2
        exact ⟨by simp [Ghost.put], Nat.le_refl _, Nat.le_refl _, fun _ => rfl, fun c hoc => nomatch hoc⟩
      · rw [hnone] at hg2; cases hg2
  · rcases get_append he with ⟨hl, he2⟩ | ⟨_, he2⟩
    · have hg2 : G.row b g = some (oc, cap') := by
        rcases Ghost.put_row hg with ⟨rfl, _, _⟩ | h
        · omega
        · exact h
      exact H.sit b s pos he2 g oc cap' hg2
    · cases he2
  · rcases Ghost.put_row h1 with ⟨rfl, _, e1⟩ | k1 <;> rcases Ghost.put_row h2 with ⟨rfl, _, e2⟩ | k2
    · rfl
    · injection e1 with e1 _; cases e1
    · injection e2 with e2 _; cases e2
    · exact H.excl _ _ _ _ _ _ _ k1 k2
  · rcases get_append he with ⟨hl, he2⟩ | ⟨rfl, he2⟩
    · exact H.wgle _ _ _ _ _ he2
    · injection he2 with e1 e2 e3 e4
      subst e1; subst e3; simp

theorem TRel.mono {Z : Zone} {G G' : Ghost} {w : World} {D : Nat → Prop} {tm : List AV} {tmps : Array Value} (T : TRel Z G w D tm tmps) (h : G.le G') : TRel Z G' w D tm tmps :=
  ⟨T.len, fun i hi hd => (T.rel i hi hd).mono (fun _ _ h => h) h (fun _ _ _ => rfl)⟩

/-- In a cell that holds nil, an own slice without elements. -/
theorem HRel.setNil {base : Nat} {Z : Zone} {G : Ghost} {hp : Heap} {w : World} (H : HRel base Z G hp w) {b : Nat} {es : List AV} {sz wg com i o g0 : Nat} {r0 : Option Nat × Nat} {e x : AV} (hb : hp[b]? = some (.row es sz wg com)) (hg0 : G.row b g0 = some r0)
    (he : es[i]? = some e) (hn : e.cells[o]? = some .nils) (h1 : x.one = true) (hx : Rel Z G w x (.slice none 0 0)) :
    HRel base Z G (hp.set b (.row (es.set i (writeCells e o [x])) sz wg com)) w := by
  have hxc : x.cells = [x] := AV.cells_one h1
  have hxf : x.fits 1 = true := by simp [AV.fits, hxc, h1]
  have hol : o + 1 ≤ e.cells.length := by
    rcases Nat.lt_or_ge o e.cells.length with h | h
    · exact h
    · rw [List.getElem?_eq_none h] at hn; cases hn
  have hi : i < es.length := by
    rcases Nat.lt_or_ge i es.length with h | h
    · exact h
    · rw [List.getElem?_eq_none h] at he; cases he
  have heD : es.getD i .undef = e := by simp [List.getD_eq_getElem?_getD, he]
  have hnD : e.cells.getD o .undef = .nils := by simp [List.getD_eq_getElem?_getD, hn]
  obtain ⟨wc1, wc2, wc3⟩ := writeCells_cells (e := e) (v := x) (o := o) (n := 1) (by omega) hxf hol
  rw [hxc] at wc1 wc2 wc3
  have hbl := lt_of_get hb
  have hcell : ∀ o', o' < e.cells.length → (writeCells e o [x]).cells.getD o' .undef = if o' = o then x else e.cells.getD o' .undef := by
    intro o' ho'
    rw [wc1]
    simp only [List.getD_eq_getElem?_getD, List.getElem?_append, List.length_append, List.length_take, List.length_singleton, List.getElem?_take, List.getElem?_drop]
    have hm : min o e.cells.length = o := by omega
    rw [hm]
    rcases Nat.lt_trichotomy o' o with h | h | h
    · rw [if_pos (by omega), if_pos h, if_pos h, if_neg (by omega)]
    · subst h
      rw [if_pos (by omega), if_neg (by omega), if_pos rfl]; simp
    · rw [if_neg (by omega), if_neg (by omega), show o + 1 + (o' - (o + 1)) = o' by omega]
  refine ⟨H.lo, H.zone, fun b' g r h => by simpa using H.dom b' g r h, fun b' es2 sz2 wg2 com2 he2 => ?_, fun b' s pos he2 g oc cap' hg' => ?_, H.excl, pend_set H.pend hg0, fun b' es2 sz2 wg2 com2 he2 => ?_⟩
  · rcases get_set hbl he2 with ⟨hne, he3⟩ | ⟨rfl, he3⟩
    · exact H.row b' es2 sz2 wg2 com2 he3
    · injection he3 with e1 e2 e3 e4
      subst e1; subst e2; subst e3; subst e4
      obtain ⟨hf, hr⟩ := H.row b' es sz2 wg2 com2 hb
      have hfe := hf i hi
      rw [heD] at hfe
      obtain ⟨fl, fo⟩ := fits_iff.1 hfe
      refine ⟨fun j hj => ?_, fun g oc cap' hg' => ?_⟩
      · rw [set_getD hi]
        split
        · exact fits_iff.2 ⟨wc2.trans fl, wc3 fo⟩
        · exact hf j (by simpa using hj)
      · obtain ⟨k1, k2, k3, k4, k5⟩ := hr g oc cap' hg'
        refine ⟨k1, by simpa using k2, k3, k4, fun c hoc => ?_⟩
        obtain ⟨h6, h7, cs, t, h8, h9, h10⟩ := k5 c hoc
        refine ⟨h6, h7, cs, t, h8, h9, fun hw j o' hj ho' => ?_⟩
        have hrel := h10 hw j o' hj ho'
        rw [set_getD hi]
        split
        · rename_i ej
          subst ej
          rw [heD] at hrel
          rw [hcell o' (by omega)]
          split
          · rename_i eo
            subst eo
            rw [hnD] at hrel
            rw [hrel.nils_inv]; exact hx
          · exact hrel
        · exact hrel
  · rcases get_set hbl he2 with ⟨_, he3⟩ | ⟨_, he3⟩
    · exact H.sit b' s pos he3 g oc cap' hg'
    · cases he3
  · rcases get_set hbl he2 with ⟨_, he3⟩ | ⟨_, he3⟩
    · exact H.wgle b' es2 sz2 wg2 com2 he3
    · injection he3 with e1 e2 e3 e4
      subst e1; subst e2; subst e3; subst e4
      rw [List.length_set]; exact H.wgle b es sz2 wg2 com2 hb

theorem prepOwn_ok {base : Nat} {Z : Zone} {w : World} {a : Act} : ∀ (l : List (Nat × Nat)) {G : Ghost} {st : St}, HRel base Z G st.hp w → TRel Z G w (fun _ => False) st.tm a.tmps →
    ∃ G', HRel base Z G' (prepOwn l st).hp w ∧ TRel Z G' w (fun _ => False) (prepOwn l st).tm a.tmps ∧ G.le G'
  | [], G, st, H, T => ⟨G, H, T, .refl G⟩
  | (d, sz) :: r, G, st, H, T => by
    have hnew : Rel Z (G.put st.hp.length 0 (none, 0) sz) w (.ms st.hp.length 0 0 0) (.slice none 0 0) := by
      have := Rel.ms (Z := Z) (w := w) st.hp.length 0 0 0 none 0 none (Ghost.put_same G st.hp.length 0 (none, 0) sz) (by omega) (Nat.le_refl _) (fun h => absurd h (Nat.lt_irrefl _)) (fun _ _ => rfl)
      simpa using this
    obtain ⟨H', hle⟩ := H.pushNil sz
    unfold prepOwn
    split
    · split
      · rename_i hd
        have hdl : d < st.tm.length := by
          rcases Nat.lt_or_ge d st.tm.length with h | h
          · exact h
          · rw [List.getElem?_eq_none h] at hd; cases hd
        have hrel := T.rel d hdl (fun h => h)
        rw [show st.tm.getD d .undef = .nils by simp [List.getD_eq_getElem?_getD, hd]] at hrel
        have hv := hrel.nils_inv
        have T' : TRel Z (G.put st.hp.length 0 (none, 0) sz) w (fun _ => False) (st.tm.set d (.ms st.hp.length 0 0 0)) a.tmps := by
          have := (T.mono hle).set (d := d) (x := .ms st.hp.length 0 0 0) (v := .slice none 0 0) hnew
          have e : a.tmps.setIfInBounds d (.slice none 0 0) = a.tmps := by
            have hds : d < a.tmps.size := by rw [← T.len]; exact hdl
            apply Array.ext_getElem?
            intro i
            by_cases e : d = i
            · subst e
              rw [← hv]; simp [Array.getD, hds]
            · rw [Array.getElem?_setIfInBounds_ne e]
          rwa [e] at this
        obtain ⟨G', h1, h2, h3⟩ := prepOwn_ok r (st := ⟨st.tm.set d (.ms st.hp.length 0 0 0), st.hp ++ [.row [] sz 0 0]⟩) H' T'
        exact ⟨G', h1, h2, hle.trans h3⟩
      · exact prepOwn_ok r H T
    · split
      · rename_i b g i o hd
        split
        · rename_i es n wg com hb
          split
          · rename_i e he
            split
            · rename_i hn
              have hdl : d % 1000 < st.tm.length := by
                rcases Nat.lt_or_ge (d % 1000) st.tm.length with h | h
                · exact h
                · rw [List.getElem?_eq_none h] at hd; cases hd
              have hrel := T.rel (d % 1000) hdl (fun h => h)
              rw [show st.tm.getD (d % 1000) .undef = .mp b g i o by simp [List.getD_eq_getElem?_getD, hd]] at hrel
              obtain ⟨c, cap, hg⟩ : ∃ c cap, G.row b g = some (some c, cap) := by
                generalize a.tmps.getD (d % 1000) Go.undef = vv at hrel
                cases hrel with
                | pure h => cases h
                | mp _ _ _ _ c cap hg _ => exact ⟨c, cap, hg⟩
              have hb' : (st.hp ++ [.row [] sz 0 0])[b]? = some (.row es n wg com) := by
                rw [List.getElem?_append_left (lt_of_get hb)]; exact hb
              have H2 := H'.setNil hb' (hle.row _ _ _ hg) he hn rfl hnew
              obtain ⟨G', h1, h2, h3⟩ := prepOwn_ok r (st := ⟨st.tm, _⟩) H2 (T.mono hle)
              exact ⟨G', h1, h2, hle.trans h3⟩
            · exact prepOwn_ok r H T
          · exact prepOwn_ok r H T
        · exact prepOwn_ok r H T
      · exact prepOwn_ok r H T
end Go.EV
