/-
  Each operation of the model does what the evaluator says: slice literals, make, append.
-/
import Derived.Test.YtkdjkbgcebodgaaDoorEvO
import Derived.IntWalk
set_option linter.unusedSimpArgs false
set_option linter.unusedVariables false
namespace Go.EV
open Go.RowKit
variable {E : Env} {P : Program}

/-- Elements and the cells of a row: those of the elements stand at its head. -/
structure RowRel (Z : Zone) (G : Ghost) (w : World) (es : List AV) (sz : Nat) (cs : Array Value) : Prop where
  fits : ∀ i, i < es.length → (es.getD i .undef).fits sz = true
  size : es.length * sz ≤ cs.size
  rel : ∀ i o, i < es.length → o < sz → Rel Z G w ((es.getD i .undef).cells.getD o .undef) (cs.getD (i * sz + o) Go.undef)

theorem arr_getD (xs : Array Value) (k : Nat) : xs.toList.getD k Go.undef = xs.getD k Go.undef := by
  rw [Array.getD_eq_getD_getElem?, List.getD_eq_getElem?_getD, Array.getElem?_toList]
theorem list_getD (xs : List Value) (k : Nat) : xs.toArray.getD k Go.undef = xs.getD k Go.undef := by
  rw [Array.getD_eq_getD_getElem?, List.getD_eq_getElem?_getD, List.getElem?_toArray]

theorem mul_le_of_lt {i n sz : Nat} (h : i < n) : i * sz + sz ≤ n * sz := by
  have : (i + 1) * sz ≤ n * sz := Nat.mul_le_mul_right _ h
  rwa [Nat.add_mul, Nat.one_mul] at this

theorem RowRel.set {Z : Zone} {G : Ghost} {w : World} {es : List AV} {sz : Nat} {cs : Array Value} (h : RowRel Z G w es sz cs) {a : AV} {v : Value} {i : Nat} (ha : Rel Z G w a v) (hf : a.fits sz = true) (hi : i < es.length) :
    RowRel Z G w (es.set i a) sz ((cs.toList.take (i * sz) ++ v.cells.toList ++ cs.toList.drop (i * sz + v.cells.size)).toArray) := by
  obtain ⟨h1, h2, _⟩ := ha.cellsOf hf
  have hb := mul_le_of_lt (sz := sz) hi
  have hs := h.size
  refine ⟨fun j hj => ?_, ?_, fun j o hj ho => ?_⟩
  · rw [set_getD hi]; split
    · exact hf
    · exact h.fits j (by simpa using hj)
  · simp; omega
  · have e2 := splice_getD cs.toList v.cells.toList (i * sz) Go.undef (by simp; omega) (j * sz + o)
    simp only [Array.length_toList] at e2
    have hj' : j < es.length := by simpa using hj
    rw [list_getD, e2, arr_getD, arr_getD, set_getD hi]
    simp only [h1]
    have hz : 0 < sz := by omega
    rcases idx_cases (i := i) (i' := j) (o := 0) (o' := o) hz ho with ⟨c1, c2⟩ | c1 | ⟨c1, c2⟩
    · rw [if_neg (show ¬ j = i by omega), if_pos (show j * sz + o < i * sz by omega)]; exact h.rel j o hj' ho
    · subst c1
      rw [if_pos rfl, if_neg (show ¬ (j * sz + o < j * sz) by omega), if_pos (show j * sz + o < j * sz + sz by omega), show j * sz + o - j * sz = o by omega]
      exact h2 o ho
    · rw [if_neg (show ¬ j = i by omega), if_neg (show ¬ (j * sz + o < i * sz) by omega), if_neg (show ¬ (j * sz + o < i * sz + sz) by omega)]; exact h.rel j o hj' ho

theorem RowRel.zeros {Z : Zone} {G : Ghost} {w : World} {a : AV} {z : Value} {sz n m : Nat} (ha : Rel Z G w a z) (hf : a.fits sz = true) (hz : 0 < sz) (hn : n ≤ m) :
    RowRel Z G w (List.replicate n a) sz ((Array.range (m * sz)).map (z.cells[· % z.cells.size]!)) := by
  obtain ⟨h1, h2, _⟩ := ha.cellsOf hf
  have hg : ∀ i, i < n → (List.replicate n a).getD i .undef = a := by intro i hi; simp [List.getD_eq_getElem?_getD, hi]
  refine ⟨fun i hi => by rw [hg i (by simpa using hi)]; exact hf, by simp; exact Nat.mul_le_mul_right _ hn, fun i o hi ho => ?_⟩
  have hi' : i < n := by simpa using hi
  have hb := mul_le_of_lt (sz := sz) (show i < m by omega)
  rw [hg i hi']
  have hk : i * sz + o < m * sz := by omega
  have hmod : (i * sz + o) % sz = o := by rw [Nat.mul_comm, Nat.mul_add_mod]; exact Nat.mod_eq_of_lt ho
  have : ((Array.range (m * sz)).map (z.cells[· % z.cells.size]!)).getD (i * sz + o) Go.undef = z.cells.getD o Go.undef := by
    have ho' : o < z.cells.size := by omega
    simp [Array.getD, hk, h1, hmod, ho, getElem!_def, Array.getElem?_eq_getElem ho']
  rw [this]
  exact h2 o ho

theorem fillEls_ok {Z : Zone} {G : Ghost} {w : World} {sz : Nat} : ∀ {ps : List (Nat × AV)} {qs : List (Nat × Value)} {es es' : List AV} {vs : Array Value}, RowRel Z G w es sz vs → ps.length = qs.length →
    (∀ i (h1 : i < ps.length) (h2 : i < qs.length), ps[i].1 = qs[i].1 ∧ Rel Z G w ps[i].2 qs[i].2) → fillEls sz es ps = some es' →
      ∃ vs', Instr.fill (fun i => some (i * sz, sz)) vs qs = some vs' ∧ RowRel Z G w es' sz vs' ∧ vs'.size = vs.size ∧ es'.length = es.length
  | [], [], es, es', vs, h, _, _, he => by
    simp only [fillEls, Option.some.injEq] at he; subst he; exact ⟨vs, rfl, h, rfl, rfl⟩
  | [], _ :: _, _, _, _, _, hl, _, _ => by simp at hl
  | _ :: _, [], _, _, _, _, hl, _, _ => by simp at hl
  | (i, a) :: ps, (j, v) :: qs, es, es', vs, h, hl, hr, he => by
    obtain ⟨hij, ha⟩ := hr 0 (by simp) (by simp)
    simp only [List.getElem_cons_zero] at hij ha
    subst hij
    simp only [fillEls] at he
    simp only [Instr.fill]
    split at he
    · rename_i hc
      obtain ⟨h1, h2, _⟩ := ha.cellsOf hc.1
      have hb := mul_le_of_lt (sz := sz) hc.2
      have hs := h.size
      rw [if_neg (by simp [h1]; omega), fill_zip v (i * sz) vs (by omega)]
      obtain ⟨vs', e1, e2, e3, e4⟩ := fillEls_ok (h.set ha hc.1 hc.2) (by simpa using hl) (fun k h1 h2 => by
        have := hr (k + 1) (by simpa using h1) (by simpa using h2); simpa using this) he
      exact ⟨vs', e1, e2, by rw [e3]; simp; omega, by rw [e4]; simp⟩
    · cases he

theorem Rel.ms_new {Z : Zone} {G : Ghost} {w : World} {b g c cap sz : Nat} (hg : G.row b g = some (some c, cap)) (hc : g ≤ cap) : Rel Z G w (.ms b g 0 g) (.slice (some ⟨c, 0, none⟩) g cap) := by
  have := Rel.ms (Z := Z) (G := G) (w := w) b g 0 g (some c) cap (some ⟨c, 0, none⟩) hg (by omega) hc (fun _ => ⟨c, rfl, by simp⟩) (fun _ h => (nomatch h))
  simpa using this

theorem newRow_ok {base : Nat} {Z : Zone} {G : Ghost} {hp : Heap} {w : World} (H : HRel base Z G hp w) (t : TypeId) {es : List AV} {sz cap : Nat} {cs : Array Value} (h : RowRel Z G w es sz cs) (hs : cs.size = cap * sz) (hc : es.length ≤ cap) :
    OpPost base Z G (hp ++ [.row es sz 0 0]) w (.ms hp.length es.length 0 es.length) (.slice (some ⟨w.heap.size, 0, none⟩) es.length cap) (w.alloc (.cells cs t)) := by
  obtain ⟨H', E'⟩ := H.push (es := es) (sz := sz) (wg := 0) (cap := cap) (cs := cs) t h.fits hs hc h.rel (Nat.zero_le _)
  exact ⟨_, _, E', H', Rel.ms_new (sz := sz) (Ghost.put_same G _ _ _ _) hc⟩

theorem buildSlice_ok {base : Nat} {Z : Zone} {G : Ghost} {hp hp' : Heap} {w : World} (H : HRel base Z G hp w) (hE : ∀ t ti, E.ti t = some ti → TiOk P t ti) {t : TypeId} {len : Nat} {ps : List (Nat × AV)} {qs : Array (Nat × Value)} {r : AV} (hl : ps.length = qs.toList.length)
    (hr : ∀ i (h1 : i < ps.length) (h2 : i < qs.toList.length), ps[i].1 = qs.toList[i].1 ∧ Rel Z G w ps[i].2 qs.toList[i].2) (h : buildSliceAV E hp t len ps = some (r, hp')) :
    ∃ v w', (Instr.buildSlice t len qs).run P w = .ok v w' ∧ OpPost base Z G hp' w r v w' := by
  unfold buildSliceAV at h
  split at h
  rotate_left
  · cases h
  rename_i ti ht
  have hu := (hE _ _ ht).desc
  split at h
  rotate_left
  · cases h
  rename_i e hd
  rw [hd] at hu
  split at h
  rotate_left
  · cases h
  rename_i te hte
  split at h
  rotate_left
  · cases h
  rename_i hc
  obtain ⟨hc1, hc2, hc3⟩ := hc
  split at h
  rotate_left
  · cases h
  rename_i es hes
  injection h with h; injection h with h1 h2; subst h1; subst h2
  obtain ⟨inf, hi, hs, hb, z, hz, hzr⟩ := (hE _ _ hte).info
  have hzero : (zeroValue e).run P w = .ok z w := by simp [zeroValue, typeInfo, hi, hz]
  have hz0 := RowRel.zeros (n := len) (m := len) (.pure (hzr Z w) : Rel Z G w te.zero z) hc3 hc2 (Nat.le_refl _)
  obtain ⟨vs', e1, e2, e3, e4⟩ := fillEls_ok hz0 hl hr hes
  simp only [List.length_replicate] at e4
  have hsz : vs'.size = len * te.size := by rw [e3]; simp
  subst e4
  refine ⟨_, _, ?_, newRow_ok H e e2 hsz (Nat.le_refl _)⟩
  unfold Instr.buildSlice
  simp only [Sem.run_bind, run_underlying hu, Result.andThen_ok, run_sizeOf' (hE _ _ hte)]
  rw [if_neg (by omega)]
  by_cases h0 : es.length * te.size = 0
  · have : es.length = 0 := by
      rcases Nat.mul_eq_zero.1 h0 with h | h <;> omega
    have hnil : es = [] := List.length_eq_zero_iff.1 this
    subst hnil
    simp only [List.length_nil, Nat.zero_mul] at e1 ⊢
    have he : (Array.range 0).map (z.cells[· % z.cells.size]!) = #[] := by simp
    have he' : ∀ f : Nat → Value, (Array.range 0).map f = #[] := by simp
    rw [he] at e1
    simp [he', e1, newRow]
  · simp [h0, hzero, e1, newRow]

theorem makeSlice_ok {base : Nat} {Z : Zone} {G : Ghost} {hp hp' : Heap} {w : World} (H : HRel base Z G hp w) (hE : ∀ t ti, E.ti t = some ti → TiOk P t ti) {t : TypeId} {l c r : AV} {a b : Value} (hl : Rel Z G w l a) (hc : Rel Z G w c b)
    (h : makeSliceAV E hp t l c = some (r, hp')) : ∃ v w', (Instr.makeSlice t a b).run P w = .ok v w' ∧ OpPost base Z G hp' w r v w' := by
  unfold makeSliceAV at h
  split at h
  rotate_left
  · cases h
  rename_i ti n m ht hn hm
  obtain ⟨k1, rfl⟩ := natOf_ok hl hn
  obtain ⟨k2, rfl⟩ := natOf_ok hc hm
  have hu := (hE _ _ ht).desc
  split at h
  rotate_left
  · cases h
  rename_i e hd
  rw [hd] at hu
  split at h
  rotate_left
  · cases h
  rename_i te hte
  split at h
  rotate_left
  · cases h
  rename_i hcond
  obtain ⟨c1, c2, c3, c4, c5⟩ := hcond
  injection h with h; injection h with h1 h2; subst h1; subst h2
  obtain ⟨inf, hi, hs, hb, z, hz, hzr⟩ := (hE _ _ hte).info
  have hzero : (zeroValue e).run P w = .ok z w := by simp [zeroValue, typeInfo, hi, hz]
  have hz0 := RowRel.zeros (n := n) (m := m) (.pure (hzr Z w) : Rel Z G w te.zero z) c5 c4 c1
  have hw : ∀ x : Nat, x ≤ 1099511627776 → IntKind.i64.wrap (x : Int) = x := by
    intro x hx; exact IntWalk.i64_in _ (by omega)
  have hpost := newRow_ok (cap := m) H e hz0 (by simp) (by simpa using c1)
  simp only [List.length_replicate] at hpost
  refine ⟨_, _, ?_, hpost⟩
  unfold Instr.makeSlice
  simp only [Sem.run_bind, run_underlying hu, Result.andThen_ok, asInt, asIntOf, Sem.run_pure, typeInfo, run_program, hi, hb, hw n (by omega), hw m c3]
  have hbm : ¬ ((te.bytes : Int) * (m : Int) > 2 ^ 48) := by
    have : ((m * te.bytes : Nat) : Int) ≤ 1099511627776 := by omega
    rw [Int.natCast_mul, Int.mul_comm] at this
    omega
  have hcnd : (((m : Int) < 0 || (te.bytes : Int) * (m : Int) > 2 ^ 48) || (n : Int) < 0 || (n : Int) > (m : Int)) = false := by
    have e1 : ¬ ((m : Int) < 0) := by omega
    have e2 : ¬ ((n : Int) < 0) := by omega
    have e3 : ¬ ((n : Int) > (m : Int)) := by omega
    simp only [decide_eq_false e1, decide_eq_false e2, decide_eq_false e3, decide_eq_false hbm, Bool.or_false]
  rw [if_neg (by rw [hcnd]; exact Bool.false_ne_true)]
  simp only [Sem.run_bind, run_askRoom, Result.andThen_ok, Int.toNat_natCast, run_sizeOf' (hE _ _ hte)]
  by_cases h0 : m * te.size = 0
  · have hm0 : m = 0 := by
      rcases Nat.mul_eq_zero.1 h0 with h | h <;> omega
    subst hm0
    have he' : ∀ f : Nat → Value, (Array.range 0).map f = #[] := by simp
    simp [he', newRow]
  · simp [h0, hzero, newRow]
end Go.EV
