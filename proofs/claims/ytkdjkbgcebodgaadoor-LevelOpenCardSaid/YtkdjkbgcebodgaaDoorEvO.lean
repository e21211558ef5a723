/-
  Each operation of the model does what the evaluator says: new variables, literals, make, append, ranging over a string.
-/
import Derived.Test.YtkdjkbgcebodgaaDoorEvN
set_option linter.unusedSimpArgs false
set_option linter.unusedVariables false
namespace Go.EV
open Go.RowKit
variable {E : Env} {P : Program}

/-- What an operation comes to. -/
def OpPost (base : Nat) (Z : Zone) (G : Ghost) (hp' : Heap) (w : World) (r : AV) (v : Value) (w' : World) : Prop :=
  ∃ Z' G', Ext base Z G w Z' G' w' ∧ HRel base Z' G' hp' w' ∧ Rel Z' G' w' r v
theorem OpPost.same {base : Nat} {Z : Zone} {G : Ghost} {hp : Heap} {w : World} {r : AV} {v : Value} (H : HRel base Z G hp w) (h : Rel Z G w r v) : OpPost base Z G hp w r v w :=
  ⟨Z, G, .refl _ _ _ _, H, h⟩

theorem Rel.cellsArr {Z : Zone} {G : Ghost} {w : World} {es : List AV} {sz : Nat} {cs : Array Value} (h : ∀ i o, i < es.length → o < sz → Rel Z G w ((es.getD i .undef).cells.getD o .undef) (cs.getD (i * sz + o) Go.undef)) : True := trivial

theorem newVar_ok {base : Nat} {Z : Zone} {G : Ghost} {hp : Heap} {w : World} (H : HRel base Z G hp w) (t : TypeId) {a : AV} {v : Value} {n : Nat} (ha : Rel Z G w a v) (hf : a.fits n = true) (hn : 0 < n) :
    (newVar t v).run P w = .ok ⟨w.heap.size, 0, none⟩ (w.alloc (.cells v.cells t)) ∧ OpPost base Z G (hp ++ [.row [a] n 0 0]) w (.mp hp.length 1 0 0) (.pointer (some ⟨w.heap.size, 0, none⟩)) (w.alloc (.cells v.cells t)) := by
  obtain ⟨h1, h2, _⟩ := ha.cellsOf hf
  refine ⟨by simp [newVar, newRow], ?_⟩
  obtain ⟨H', E'⟩ := H.push (es := [a]) (sz := n) (wg := 0) (cap := 1) (cs := v.cells) t (fun i hi => by
      have : i = 0 := by simp at hi; omega
      subst this; simpa using hf) (by omega) (by simp) (fun i o hi ho => by
      have : i = 0 := by simp at hi; omega
      subst this; simpa using h2 o ho) (by simp)
  refine ⟨_, _, E', H', ?_⟩
  have := Rel.mp (Z := Z) (w := w.alloc (.cells v.cells t)) hp.length 1 0 0 w.heap.size 1 (Ghost.put_same G hp.length 1 (some w.heap.size, 1) n) (by omega)
  simpa using this

theorem alloc_ok {base : Nat} {Z : Zone} {G : Ghost} {hp : Heap} {w : World} (H : HRel base Z G hp w) {t : TypeId} {ti : TI} (ht : TiOk P t ti) (hf : ti.zero.fits ti.size = true) (hn : 0 < ti.size) :
    ∃ v w', (Instr.alloc t true (.tuple #[])).run P w = .ok v w' ∧ OpPost base Z G (hp ++ [.row [ti.zero] ti.size 0 0]) w (.mp hp.length 1 0 0) v w' := by
  obtain ⟨inf, hi, hs, hb, z, hz, hzr⟩ := ht.info
  obtain ⟨h1, h2⟩ := newVar_ok (P := P) H t (.pure (hzr Z w)) hf hn
  refine ⟨_, _, ?_, h2⟩
  simp only [Instr.alloc, zeroValue, typeInfo, Sem.run_bind, run_program, Result.andThen_ok, hi, hz, Sem.run_pure, h1]

theorem box_ok {base : Nat} {Z : Zone} {G : Ghost} {hp : Heap} {w : World} (H : HRel base Z G hp w) {t : TypeId} {a : AV} {v : Value} {n : Nat} (ha : Rel Z G w a v) (hf : a.fits n = true) (hn : 0 < n) :
    ∃ u w', (Instr.box t v).run P w = .ok u w' ∧ OpPost base Z G (hp ++ [.row [a] n 0 0]) w (.mp hp.length 1 0 0) u w' := by
  obtain ⟨h1, h2⟩ := newVar_ok (P := P) H t ha hf hn
  exact ⟨_, _, by simp only [Instr.box, Sem.run_bind, h1, Result.andThen_ok, Sem.run_pure], h2⟩

/-- Parts laid over cells. -/
theorem foldl_set (vs : List Value) : ∀ (off k : Nat) (cs : Array Value), off + k + vs.length ≤ cs.size →
    ((vs.zipIdx k).foldl (fun cs (c, j) => cs.setIfInBounds (off + j) c) cs) = (cs.toList.take (off + k) ++ vs ++ cs.toList.drop (off + k + vs.length)).toArray := by
  induction vs with
  | nil => intro off k cs _; apply Array.ext'; simp
  | cons v vs ih =>
    intro off k cs h
    simp only [List.length_cons] at h
    simp only [List.zipIdx_cons, List.foldl_cons]
    rw [ih off (k + 1) _ (by simp; omega)]
    apply Array.ext'
    have e := list_seg_step cs.toList (off + k) v vs (by simp; omega)
    simpa [Array.toList_setIfInBounds, Nat.add_assoc] using e
theorem fill_zip (v : Value) (off : Nat) (cs : Array Value) (h : off + v.cells.size ≤ cs.size) :
    (v.cells.zipIdx.foldl (fun cs (c, j) => cs.setIfInBounds (off + j) c) cs) = (cs.toList.take off ++ v.cells.toList ++ cs.toList.drop (off + v.cells.size)).toArray := by
  have := foldl_set v.cells.toList off 0 cs (by simpa using h)
  simp only [Nat.add_zero, Array.length_toList] at this
  rw [← this, ← Array.foldl_toList]
  congr 1
  simp [Array.toList_zipIdx]

def CRel (Z : Zone) (G : Ghost) (w : World) (cs : List AV) (vs : Array Value) : Prop := cs.length = vs.size ∧ ∀ i, i < cs.length → Rel Z G w (cs.getD i .undef) (vs.getD i Go.undef)

theorem CRel.splice {Z : Zone} {G : Ghost} {w : World} {cs : List AV} {vs : Array Value} (h : CRel Z G w cs vs) {a : AV} {v : Value} {n off : Nat} (ha : Rel Z G w a v) (hf : a.fits n = true) (hle : off + n ≤ cs.length) :
    CRel Z G w (cs.take off ++ a.cells ++ cs.drop (off + n)) ((vs.toList.take off ++ v.cells.toList ++ vs.toList.drop (off + v.cells.size)).toArray) := by
  obtain ⟨h1, h2, _⟩ := ha.cellsOf hf
  obtain ⟨hl, _⟩ := fits_iff.1 hf
  have hs := h.1
  refine ⟨by simp; omega, fun i hi => ?_⟩
  have e1 := splice_getD cs a.cells off AV.undef (by omega) i
  have e2 := splice_getD vs.toList v.cells.toList off Go.undef (by simp; omega) i
  rw [hl] at e1
  simp only [Array.length_toList] at e2
  have harr : ((vs.toList.take off ++ v.cells.toList ++ vs.toList.drop (off + v.cells.size)).toArray).getD i Go.undef = (vs.toList.take off ++ v.cells.toList ++ vs.toList.drop (off + v.cells.size)).getD i Go.undef := by
    rw [Array.getD_eq_getD_getElem?, List.getD_eq_getElem?_getD, List.getElem?_toArray]
  have hcs : ∀ (xs : Array Value) k, xs.toList.getD k Go.undef = xs.getD k Go.undef := by
    intro xs k; rw [Array.getD_eq_getD_getElem?, List.getD_eq_getElem?_getD, Array.getElem?_toList]
  rw [harr, e1, e2, hcs, hcs]
  simp only [h1]
  have hi' : i < cs.length := by simp at hi; omega
  by_cases c1 : i < off
  · rw [if_pos c1, if_pos c1]; exact h.2 i hi'
  · rw [if_neg c1, if_neg c1]
    by_cases c2 : i < off + n
    · rw [if_pos c2, if_pos c2]; exact h2 _ (by omega)
    · rw [if_neg c2, if_neg c2]; exact h.2 i hi'

theorem fill_ok {Z : Zone} {G : Ghost} {w : World} {place : Nat → Option (Nat × Nat)} : ∀ {ps : List (Nat × AV)} {qs : List (Nat × Value)} {cs cs' : List AV} {vs : Array Value}, CRel Z G w cs vs → ps.length = qs.length →
    (∀ i (h1 : i < ps.length) (h2 : i < qs.length), ps[i].1 = qs[i].1 ∧ Rel Z G w ps[i].2 qs[i].2) → fillAV place cs ps = some cs' → ∃ vs', Instr.fill place vs qs = some vs' ∧ CRel Z G w cs' vs'
  | [], [], cs, cs', vs, h, _, _, he => by
    simp only [fillAV, Option.some.injEq] at he; subst he; exact ⟨vs, rfl, h⟩
  | [], _ :: _, _, _, _, _, hl, _, _ => by simp at hl
  | _ :: _, [], _, _, _, _, hl, _, _ => by simp at hl
  | (i, a) :: ps, (j, v) :: qs, cs, cs', vs, h, hl, hr, he => by
    obtain ⟨hij, ha⟩ := hr 0 (by simp) (by simp)
    simp only [List.getElem_cons_zero] at hij ha
    subst hij
    simp only [fillAV] at he
    simp only [Instr.fill]
    cases hp : place i with
    | none => rw [hp] at he; cases he
    | some p =>
      obtain ⟨off, n⟩ := p
      rw [hp] at he
      simp only at he ⊢
      split at he
      · rename_i hc
        obtain ⟨h1, h2, _⟩ := ha.cellsOf hc.1
        have hsz := h.1
        rw [if_neg (by simp [h1]; omega), fill_zip v off vs (by omega)]
        exact fill_ok (h.splice ha hc.1 hc.2) (by simpa using hl) (fun k h1 h2 => by
          have := hr (k + 1) (by simpa using h1) (by simpa using h2); simpa using this) he
      · cases he

theorem CRel.ofCells {Z : Zone} {G : Ghost} {w : World} {a : AV} {v : Value} (h : Rel Z G w a v) {n : Nat} (hf : a.fits n = true) : CRel Z G w a.cells v.cells := by
  obtain ⟨h1, h2, _⟩ := h.cellsOf hf
  obtain ⟨hl, _⟩ := fits_iff.1 hf
  exact ⟨by omega, fun i hi => h2 i (by omega)⟩


theorem mapM_places (P : Program) (w : World) (hE : ∀ t ti, E.ti t = some ti → TiOk P t ti) : ∀ (fs : List Field), (∀ f ∈ fs, ∃ ti, E.ti f.type = some ti) → ∃ ps : List (Nat × Nat), ps.length = fs.length ∧ (∀ (i : Nat) (f : Field), fs[i]? = some f → ∀ ti, E.ti f.type = some ti → ps[i]? = some (f.offset, ti.size)) ∧
    (fs.mapM fun (f : Field) => do pure (f.offset, ← sizeOf f.type) : Sem (List (Nat × Nat))).run P w = .ok ps w
  | [], _ => ⟨[], rfl, fun i f h => by simp at h, rfl⟩
  | f :: fs, h => by
    obtain ⟨ti, hti⟩ := h f (by simp)
    obtain ⟨ps, h1, h2, h3⟩ := mapM_places P w hE fs (fun g hg => h g (by simp [hg]))
    refine ⟨(f.offset, ti.size) :: ps, by simp [h1], fun i g hg ti' hti' => ?_, ?_⟩
    · cases i with
      | zero => simp at hg; subst hg; rw [hti] at hti'; injection hti' with e; subst e; rfl
      | succ i => simpa using h2 i g (by simpa using hg) ti' hti'
    · simp only [List.mapM_cons, Sem.run_bind, run_sizeOf' (hE _ _ hti), Result.andThen_ok, Sem.run_pure, h3]

theorem Rel.ofCRel {Z : Zone} {G : Ghost} {w : World} {cs : List AV} {vs : Array Value} (h : CRel Z G w cs vs) : Rel Z G w (.agg cs) (.agg vs) := .agg cs vs h.1 h.2

theorem fill_mono {place place' : Nat → Option (Nat × Nat)} : ∀ (ps : List (Nat × AV)) (cs : List AV), (∀ i r, place i = some r → place' i = some r) → ∀ r, fillAV place cs ps = some r → fillAV place' cs ps = some r
  | [], cs, _, r, h => h
  | (i, a) :: ps, cs, hp, r, h => by
    simp only [fillAV] at h ⊢
    cases he : place i with
    | none => rw [he] at h; cases h
    | some p =>
      rw [he] at h; rw [hp i p he]
      simp only at h ⊢
      split at h
      · rename_i hc; rw [if_pos hc]; exact fill_mono ps _ hp r h
      · cases h

theorem build_ok {Z : Zone} {G : Ghost} {w : World} (hE : ∀ t ti, E.ti t = some ti → TiOk P t ti) {t : TypeId} {ps : List (Nat × AV)} {qs : Array (Nat × Value)} {r : AV} (hl : ps.length = qs.toList.length)
    (hr : ∀ i (h1 : i < ps.length) (h2 : i < qs.toList.length), ps[i].1 = qs.toList[i].1 ∧ Rel Z G w ps[i].2 qs.toList[i].2) (h : buildAV E t ps = some r) : ∃ v, (Instr.build t qs).run P w = .ok v w ∧ Rel Z G w r v := by
  unfold buildAV at h
  split at h
  rotate_left
  · cases h
  rename_i ti ht
  have hT := hE _ _ ht
  obtain ⟨inf, hi, hs, hb, z, hz, hzr⟩ := hT.info
  have hzero : (zeroValue t).run P w = .ok z w := by simp [zeroValue, typeInfo, hi, hz]
  split at h
  · rename_i fs hd
    have hu := hT.desc
    rw [hd] at hu
    split at h
    rotate_left
    · cases h
    rename_i hc
    simp only [Bool.and_eq_true, List.all_eq_true] at hc
    obtain ⟨places, hp1, hp2, hp3⟩ := mapM_places P w hE fs.toList (fun f hf => by have := hc.1 f hf; exact Option.isSome_iff_exists.1 this)
    obtain ⟨cs', hfill, rfl⟩ := Option.map_eq_some_iff.1 h
    · have hfill' := fill_mono (place' := fun i => places.toArray[i]?) ps _ (fun i r he => by
        simp only [placeOf] at he ⊢
        cases hfd : fs[i]? with
        | none => rw [hfd] at he; cases he
        | some fd =>
          rw [hfd] at he
          simp only at he
          cases htf : E.ti fd.type with
          | none => rw [htf] at he; cases he
          | some tf =>
            rw [htf] at he; injection he with he; subst he
            simpa using hp2 i fd (by simpa using hfd) tf htf) _ hfill
      obtain ⟨vs', hv1, hv2⟩ := fill_ok (CRel.ofCells (.pure (hzr Z w)) hc.2) hl hr hfill'
      refine ⟨.agg vs', ?_, .ofCRel hv2⟩
      unfold Instr.build
      simp only [Sem.run_bind, hzero, run_underlying hu, Result.andThen_ok, Array.mapM_eq_mapM_toList, Sem.run_map, hp3, hv1, Sem.run_pure]
  · rename_i n e hd
    have hu := hT.desc
    rw [hd] at hu
    split at h
    · rename_i te hte
      split at h
      · rename_i hf
        obtain ⟨cs', hfill, rfl⟩ := Option.map_eq_some_iff.1 h
        · obtain ⟨vs', hv1, hv2⟩ := fill_ok (CRel.ofCells (.pure (hzr Z w)) hf) hl hr hfill
          refine ⟨.agg vs', ?_, .ofCRel hv2⟩
          unfold Instr.build
          simp only [Sem.run_bind, hzero, run_underlying hu, Result.andThen_ok, run_sizeOf' (hE _ _ hte), hv1, Sem.run_pure]
      · cases h
    · cases h
  · cases h
end Go.EV
