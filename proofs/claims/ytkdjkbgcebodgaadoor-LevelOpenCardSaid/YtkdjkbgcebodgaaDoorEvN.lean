/-
  Each operation of the model does what the evaluator says: operations that make or write memory.
-/
import Derived.Test.YtkdjkbgcebodgaaDoorEvM
import Derived.Laws.CopyOwn
set_option linter.unusedSimpArgs false
set_option linter.unusedVariables false
namespace Go.EV
open Go.RowKit
variable {E : Env} {P : Program}

theorem splice_getD {α : Type} (L vs : List α) (p : Nat) (d : α) (h : p + vs.length ≤ L.length) (k : Nat) :
    (L.take p ++ vs ++ L.drop (p + vs.length)).getD k d = if k < p then L.getD k d else if k < p + vs.length then vs.getD (k - p) d else L.getD k d := by
  have hl : (L.take p).length = p := by simp; omega
  simp only [List.getD_eq_getElem?_getD]
  by_cases h1 : k < p
  · rw [if_pos h1, List.append_assoc, List.getElem?_append_left (by omega), List.getElem?_take, if_pos h1]
  · rw [if_neg h1]
    by_cases h2 : k < p + vs.length
    · rw [if_pos h2, List.append_assoc, List.getElem?_append_right (by omega), hl, List.getElem?_append_left (by omega)]
    · rw [if_neg h2, List.getElem?_append_right (by simp; omega)]
      simp only [List.length_append, hl, List.getElem?_drop]
      congr 2; omega

theorem idx_cases {i i' o o' sz : Nat} (ho : o < sz) (ho' : o' < sz) : (i' < i ∧ i' * sz + o' < i * sz) ∨ (i' = i) ∨ (i < i' ∧ i * sz + sz ≤ i' * sz) := by
  rcases Nat.lt_trichotomy i' i with h | h | h
  · refine .inl ⟨h, ?_⟩
    have : (i' + 1) * sz ≤ i * sz := Nat.mul_le_mul_right _ h
    rw [Nat.add_mul] at this; omega
  · exact .inr (.inl h)
  · refine .inr (.inr ⟨h, ?_⟩)
    have : (i + 1) * sz ≤ i' * sz := Nat.mul_le_mul_right _ h
    rw [Nat.add_mul] at this; omega

theorem writeCells_cells {e v : AV} {o n : Nat} (hn : 0 < n) (hv : v.fits n = true) (h : o + n ≤ e.cells.length) : (writeCells e o v.cells).cells = e.cells.take o ++ v.cells ++ e.cells.drop (o + v.cells.length) ∧
    ((writeCells e o v.cells).cells.length = e.cells.length) ∧ ((∀ x ∈ e.cells, x.one = true) → ∀ x ∈ (writeCells e o v.cells).cells, x.one = true) := by
  simp only [AV.fits, Bool.and_eq_true, beq_iff_eq, List.all_eq_true] at hv
  obtain ⟨hl, ho⟩ := hv
  have single : e.cells = [e] → writeCells e o v.cells = v.cells.headD .undef → (writeCells e o v.cells).cells = e.cells.take o ++ v.cells ++ e.cells.drop (o + v.cells.length) := by
    intro h1 h2
    rw [h1] at h ⊢
    simp only [List.length_singleton] at h
    have ho0 : o = 0 := by omega
    have hn1 : v.cells.length = 1 := by omega
    subst ho0
    obtain ⟨x, hx⟩ := List.length_eq_one_iff.1 hn1
    rw [h2, hx]
    have := ho x (by rw [hx]; simp)
    simp [AV.cells_one this]
  have e1 : (writeCells e o v.cells).cells = e.cells.take o ++ v.cells ++ e.cells.drop (o + v.cells.length) := by
    cases e with
    | agg cs => rfl
    | _ => exact single rfl rfl
  refine ⟨e1, by rw [e1]; simp; omega, fun hone x hx => ?_⟩
  rw [e1] at hx
  simp only [List.mem_append] at hx
  rcases hx with (hx | hx) | hx
  · exact hone x (List.mem_of_mem_take hx)
  · exact ho x hx
  · exact hone x (List.mem_of_mem_drop hx)

theorem fits_iff {n : Nat} {v : AV} : v.fits n = true ↔ v.cells.length = n ∧ ∀ x ∈ v.cells, x.one = true := by
  simp [AV.fits, List.all_eq_true]

theorem set_getD {es : List AV} {i j : Nat} {v : AV} (hi : i < es.length) : (es.set i v).getD j .undef = if j = i then v else es.getD j .undef := by
  simp only [List.getD_eq_getElem?_getD, List.getElem?_set]
  by_cases h : i = j
  · subst h; simp [hi]
  · rw [if_neg h, if_neg (fun e => h e.symm)]

/-- A row of the own memory is written: other own rows and the zone stay. -/
theorem HRel.write {base : Nat} {Z : Zone} {G : Ghost} {hp : Heap} {w : World} (H : HRel base Z G hp w) {b c cap : Nat} {es es' : List AV} {sz wg com : Nat} (hb : hp[b]? = some (.row es sz wg com))
    (hg : G.row b es.length = some (some c, cap)) (hl : es'.length = es.length) (hf : ∀ i, i < es'.length → (es'.getD i .undef).fits sz = true) {cs cs' : Array Value} {t : TypeId} (hh : w.heap[c]? = some (.cells cs t (0, 0)))
    (hs : cs'.size = cs.size) (hk : ∀ j, j < com * sz → cs'[j]? = cs[j]?)
    (hr : ∀ i o, i < es.length → o < sz → Rel Z G w ((es'.getD i .undef).cells.getD o .undef) (cs'.getD (i * sz + o) Go.undef)) :
    HRel base Z G (hp.set b (.row es' sz es.length com)) (w.setRow c cs') ∧ Ext base Z G w Z G (w.setRow c cs') := by
  obtain ⟨hsz, _, hgc, _, hc⟩ := (H.row b es sz wg com hb).2 _ _ cap hg
  obtain ⟨hbase, hz, cs0, t0, hh0, hs0, _⟩ := hc c rfl
  rw [hh] at hh0; injection hh0 with e; injection e with e1 e2; subst e1; subst e2
  have keep : ∀ c' j, Z c' j → (w.setRow c cs').cell? ⟨c', j, none⟩ = w.cell? ⟨c', j, none⟩ := by
    intro c' j hzj
    by_cases e : c' = c
    · subst e
      rw [cell_setRow_same w c' j cs cs' t (0, 0) hh, cell_of_row w c' j cs t (0, 0) hh]
      exact hk j (hz j hzj)
    · exact cell_setRow_other w c cs' _ e
  have EX : Ext base Z G w Z G (w.setRow c cs') := ⟨fun _ _ h => h, .refl G, below_setRow (.refl _ _) hbase cs', keep, fun _ _ h => .inl h⟩
  have hbl := lt_of_get hb
  refine ⟨⟨by simpa using H.lo, fun c' j h => by simpa using H.zone c' j h, fun b' g r h => by simpa using H.dom b' g r h, fun b' es2 sz2 wg2 com2 he => ?_, fun b' s pos he g oc cap' hg' => ?_, H.excl, pend_set H.pend hg, fun b' es2 sz2 wg2 com2 he => ?_⟩, EX⟩
  · rcases get_set hbl he with ⟨hne, he2⟩ | ⟨rfl, he2⟩
    · obtain ⟨hf2, hr2⟩ := H.row b' es2 sz2 wg2 com2 he2
      refine ⟨hf2, fun g oc cap' hg' => ?_⟩
      obtain ⟨h1, h2, h3, h4, h5⟩ := hr2 g oc cap' hg'
      refine ⟨h1, h2, h3, h4, fun c' hoc => ?_⟩
      obtain ⟨h6, h7, cs2, t2, h8, h9, h10⟩ := h5 c' hoc
      subst hoc
      have : c' ≠ c := by intro e; subst e; exact hne (H.excl _ _ _ _ _ _ _ hg' hg)
      exact ⟨h6, h7, cs2, t2, by rw [setRow_other w c c' cs' this]; exact h8, h9, fun hw i o hi ho => (h10 hw i o hi ho).ext EX⟩
    · injection he2 with e1 e2 e3 e4
      subst e1; subst e2; subst e3; subst e4
      refine ⟨hf, fun g oc cap' hg' => ?_⟩
      obtain ⟨h1, h2, h3, h4, h5⟩ := (H.row b' es sz2 wg com2 hb).2 g oc cap' hg'
      refine ⟨h1, by omega, h3, h4, fun c' hoc => ?_⟩
      obtain ⟨h6, h7, cs2, t2, h8, h9, h10⟩ := h5 c' hoc
      by_cases e : c' = c
      · subst e
        rw [hh] at h8; injection h8 with e; injection e with e1 e2; subst e1; subst e2
        refine ⟨h6, h7, cs', t, setRow_heap w c' cs cs' t (0, 0) hh, by rw [hs]; exact h9, fun hw i o hi ho => ?_⟩
        exact (hr i o (by omega) ho).ext EX
      · refine ⟨h6, h7, cs2, t2, by rw [setRow_other w c c' cs' e]; exact h8, h9, fun hw i o hi ho => ?_⟩
        exfalso
        have : g = es.length := by omega
        subst this
        rw [hg] at hg'; injection hg' with e'; injection e' with e1 e2; subst hoc; injection e1 with e1; exact e e1.symm
  · rcases get_set hbl he with ⟨hne, he2⟩ | ⟨rfl, he2⟩
    · obtain ⟨hg0, c', hoc, h1, h2⟩ := H.sit b' s pos he2 g oc cap' hg'
      subst hoc
      have : c' ≠ c := by intro e; subst e; exact hne (H.excl _ _ _ _ _ _ _ hg' hg)
      exact ⟨hg0, c', rfl, h1, by rw [setRow_other w c c' cs' this]; exact h2⟩
    · cases he2
  · rcases get_set hbl he with ⟨hne, he2⟩ | ⟨rfl, he2⟩
    · exact H.wgle _ _ _ _ _ he2
    · injection he2 with e1 e2 e3 e4
      subst e1; subst e3; omega

theorem store_ok {base : Nat} {Z : Zone} {G : Ghost} {hp hp' : Heap} {w : World} (H : HRel base Z G hp w) (hE : ∀ t ti, E.ti t = some ti → TiOk P t ti) {t : TypeId} {a v : AV} {x y : Value} (ha : Rel Z G w a x) (hv : Rel Z G w v y)
    (h : storeAV E hp t a v = some hp') : ∃ w', (Instr.storeAt t x y).run P w = .ok () w' ∧ HRel base Z G hp' w' ∧ Ext base Z G w Z G w' := by
  unfold storeAV at h
  split at h
  rotate_left
  · cases h
  rename_i ti b g i o hti
  split at h
  rotate_left
  · cases h
  rename_i es sz wg com hb
  split at h
  rotate_left
  · cases h
  rename_i hc
  obtain ⟨hge, hcom, hfit, hpos⟩ := hc
  subst hge
  split at h
  rotate_left
  · cases h
  rename_i e he
  split at h
  rotate_left
  · cases h
  rename_i hle
  injection h with h; subst h
  obtain ⟨hed, hil⟩ := getD_of_get he
  cases ha with
  | pure ha => cases ha
  | mp _ _ _ _ c cap hg hi =>
    obtain ⟨hf, hrow⟩ := H.row b es sz wg com hb
    obtain ⟨hsz, _, hgc, _, hcc⟩ := hrow _ _ cap hg
    obtain ⟨hbase, hz, cs, t', hh, hs, hcont⟩ := hcc c rfl
    have hef := hf i hil
    rw [hed] at hef
    obtain ⟨hel, heone⟩ := fits_iff.1 hef
    obtain ⟨hvs, hvr, hvo⟩ := hv.cellsOf hfit
    obtain ⟨hvl, _⟩ := fits_iff.1 hfit
    obtain ⟨hw1, hw2, hw3⟩ := writeCells_cells hpos hfit hle
    have hbnd : i * sz + o + ti.size ≤ cs.size := by
      have := idx_lt (sz := sz) (o := sz - 1) hil hgc (by omega); omega
    have hrun := run_storeCells_at P c (i * sz + o) t' y.cells.toList 0 cs w hh (by simp; omega) hvo
    have hlen2 : (y.cells.toList).length = ti.size := by simpa using hvs
    refine ⟨w.setRow c (cs.toList.take (i * sz + o) ++ y.cells.toList ++ cs.toList.drop (i * sz + o + y.cells.toList.length)).toArray, ?_, ?_⟩
    · rw [hsz]
      simp only [Instr.storeAt, Instr.sureAddr, Sem.run_bind, Sem.run_pure, Result.andThen_ok, storeVar, run_sizeOf' (hE _ _ hti), hvs, ne_eq, not_true_eq_false, if_false]
      exact hrun
    · rw [hlen2]
      -- every length is one that the row was written at, or older: the content of the present length
      have hrel : ∀ i o, i < es.length → o < sz → Rel Z G w ((es.getD i .undef).cells.getD o .undef) (cs.getD (i * sz + o) Go.undef) := by
        intro i' o' hi' ho'
        exact hcont (H.wgle _ _ _ _ _ hb) i' o' hi' ho'
      refine HRel.write H hb hg (by simp) (fun j hj => ?_) hh ?_ (fun j hj => ?_) (fun i' o' hi' ho' => ?_)
      · rw [set_getD hil]
        split
        · exact fits_iff.2 ⟨by rw [hw2]; exact hel, hw3 heone⟩
        · exact hf j (by simpa using hj)
      · simp; omega
      · have : com * sz ≤ i * sz := Nat.mul_le_mul_right _ hcom
        have hjl : j < cs.size := by omega
        simp only [List.getElem?_toArray, List.append_assoc]
        rw [List.getElem?_append_left (by simp; omega), List.getElem?_take, if_pos (by omega)]
        simp
      · have hsp := splice_getD cs.toList y.cells.toList (i * sz + o) Go.undef (by simp; omega) (i' * sz + o')
        rw [hlen2] at hsp
        have harr : ((cs.toList.take (i * sz + o) ++ y.cells.toList ++ cs.toList.drop (i * sz + o + ti.size)).toArray).getD (i' * sz + o') Go.undef =
            (cs.toList.take (i * sz + o) ++ y.cells.toList ++ cs.toList.drop (i * sz + o + ti.size)).getD (i' * sz + o') Go.undef := by
          rw [Array.getD_eq_getD_getElem?, List.getD_eq_getElem?_getD, List.getElem?_toArray]
        have hcs : ∀ k, cs.toList.getD k Go.undef = cs.getD k Go.undef := by
          intro k; rw [Array.getD_eq_getD_getElem?, List.getD_eq_getElem?_getD, Array.getElem?_toList]
        have hys : ∀ k, y.cells.toList.getD k Go.undef = y.cells.getD k Go.undef := by
          intro k; rw [Array.getD_eq_getD_getElem?, List.getD_eq_getElem?_getD, Array.getElem?_toList]
        rw [harr, hsp, set_getD hil]
        have hosz : o < sz := by omega
        rcases idx_cases (i := i) (i' := i') hosz ho' with ⟨h1, h2⟩ | h1 | ⟨h1, h2⟩
        · rw [if_neg (by omega), if_pos (by omega), hcs]
          exact hrel i' o' hi' ho'
        · subst h1
          rw [if_pos rfl, hw1]
          have hsp2 := splice_getD e.cells v.cells o AV.undef (by omega) o'
          rw [hsp2, hvl]
          by_cases c1 : o' < o
          · rw [if_pos c1, if_pos (show i' * sz + o' < i' * sz + o by omega), hcs, ← hed]; exact hrel i' o' hi' ho'
          · rw [if_neg c1, if_neg (show ¬ (i' * sz + o' < i' * sz + o) by omega)]
            by_cases c2 : o' < o + ti.size
            · rw [if_pos c2, if_pos (show i' * sz + o' < i' * sz + o + ti.size by omega), hys, show i' * sz + o' - (i' * sz + o) = o' - o by omega]
              exact hvr _ (by omega)
            · rw [if_neg c2, if_neg (show ¬ (i' * sz + o' < i' * sz + o + ti.size) by omega), hcs, ← hed]; exact hrel i' o' hi' ho'
        · rw [if_neg (show ¬ (i' * sz + o' < i * sz + o) by omega), if_neg (show ¬ (i' * sz + o' < i * sz + o + ti.size) by omega), if_neg (show ¬ i' = i by omega), hcs]
          exact hrel i' o' hi' ho'
end Go.EV
