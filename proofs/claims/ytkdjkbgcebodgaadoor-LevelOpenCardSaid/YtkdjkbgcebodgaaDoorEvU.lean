/-
  What is let go, what is forgotten, and what is handed to a function without own memory.
-/
import Derived.Test.YtkdjkbgcebodgaaDoorEvS
set_option linter.unusedSimpArgs false
set_option linter.unusedVariables false
namespace Go.EV
open Go.RowKit
variable {E : Env} {P : Program}

def Ghost.restrict (G : Ghost) (n : Nat) : Ghost := ⟨fun b g => if b < n then G.row b g else none, G.sz, fun b => if b < n then G.pend b else none⟩
theorem Ghost.restrict_row {G : Ghost} {n b g : Nat} {r : Option Nat × Nat} (h : (G.restrict n).row b g = some r) : b < n ∧ G.row b g = some r := by
  simp only [Ghost.restrict] at h
  split at h
  · rename_i hb; exact ⟨hb, h⟩
  · cases h
theorem Ghost.restrict_le {G0 G : Ghost} {n : Nat} (h : G0.le G) (hd : ∀ b g r, G0.row b g = some r → b < n) (hd' : ∀ b z, G0.pend b = some z → b < n) : G0.le (G.restrict n) := by
  refine ⟨fun b g r hr => ?_, fun b g r hr => h.sz b g r hr, fun b z hz => by simp only [Ghost.restrict]; rw [if_pos (hd' b z hz)]; exact h.pend b z hz⟩
  simp only [Ghost.restrict]
  rw [if_pos (hd b g r hr)]
  exact h.row b g r hr

theorem allUnder_getD {n : Nat} : ∀ {cs : List AV}, AV.under.allBelow n cs = true → ∀ i, (cs.getD i .undef).under n = true
  | [], _, i => by simp [AV.under]
  | v :: vs, h, i => by
    simp only [AV.under.allBelow, Bool.and_eq_true] at h
    cases i with
    | zero => simpa using h.1
    | succ i => simpa using allUnder_getD h.2 i

theorem Rel.restrict {Z : Zone} {G : Ghost} {w : World} {a : AV} {v : Value} {n : Nat} (h : Rel Z G w a v) (hu : a.under n = true) : Rel Z (G.restrict n) w a v := by
  have row : ∀ b g r, G.row b g = some r → b < n → (G.restrict n).row b g = some r := by
    intro b g r h hb; simp only [Ghost.restrict]; rw [if_pos hb]; exact h
  induction h with
  | pure h => exact .pure h
  | agg cs vs hl _ ih => exact .agg cs vs hl fun i hi => ih i hi (allUnder_getD (by simpa [AV.under] using hu) i)
  | tup cs vs hl _ ih => exact .tup cs vs hl fun i hi => ih i hi (allUnder_getD (by simpa [AV.under] using hu) i)
  | fn f cs vs hl _ ih => exact .fn f cs vs hl fun i hi => ih i hi (allUnder_getD (by simpa [AV.under] using hu) i)
  | iface t a v _ ih => exact .iface t a v (ih (by simpa [AV.under] using hu))
  | ms b g off len oc cap a h0 h1 h2 ha hn => exact .ms b g off len oc cap a (row _ _ _ h0 (by simpa [AV.under] using hu)) h1 h2 ha hn
  | mp b g i o c cap h0 hi => exact .mp (G := G.restrict n) b g i o c cap (row _ _ _ h0 (by simpa [AV.under] using hu)) hi
  | it b c cap h0 => exact .it b c cap (row _ _ _ h0 (by simpa [AV.under] using hu))

theorem under_cells {n : Nat} {a : AV} (h : a.under n = true) (o : Nat) : (a.cells.getD o .undef).under n = true := by
  have single : a.cells = [a] → (a.cells.getD o .undef).under n = true := by
    intro e; rw [e]
    cases o with
    | zero => simpa using h
    | succ o => simp [AV.under]
  cases a with
  | agg cs => exact allUnder_getD (cs := cs) (by simpa [AV.under] using h) o
  | _ => exact single rfl

theorem HRel.restrict {base : Nat} {Z : Zone} {G : Ghost} {hp : Heap} {w : World} (H : HRel base Z G hp w) {n : Nat} (hu : (hp.take n).all (HB.under n) = true) : HRel base Z (G.restrict n) (hp.take n) w := by
  have get : ∀ {b : Nat} {x : HB}, (hp.take n)[b]? = some x → b < n ∧ hp[b]? = some x := by
    intro b x h
    rw [List.getElem?_take] at h
    split at h
    · rename_i hb; exact ⟨hb, h⟩
    · cases h
  have hall : ∀ {b : Nat} {x : HB}, (hp.take n)[b]? = some x → x.under n = true := by
    intro b x h
    simp only [List.all_eq_true] at hu
    exact hu x (List.mem_of_getElem? h)
  refine ⟨H.lo, H.zone, fun b g r h => ?_, fun b es sz wg com he => ?_, fun b s pos he g oc cap hg => ?_, fun b b' g g' c cap cap' h1 h2 => ?_, fun b z sz hz => ?_, fun b es sz wg com he => H.wgle _ _ _ _ _ (get he).2⟩
  · obtain ⟨h1, h2⟩ := Ghost.restrict_row h
    have := H.dom b g r h2
    simp; omega
  · obtain ⟨h1, h2⟩ := get he
    obtain ⟨hf, hr⟩ := H.row b es sz wg com h2
    refine ⟨hf, fun g oc cap hg => ?_⟩
    obtain ⟨_, hg⟩ := Ghost.restrict_row hg
    obtain ⟨k1, k2, k3, k4, k5⟩ := hr g oc cap hg
    refine ⟨k1, k2, k3, k4, fun c hoc => ?_⟩
    obtain ⟨k6, k7, cs, t, k8, k9, k10⟩ := k5 c hoc
    refine ⟨k6, k7, cs, t, k8, k9, fun hw i o hi ho => (k10 hw i o hi ho).restrict ?_⟩
    have := hall he
    simp only [HB.under, List.all_eq_true] at this
    refine under_cells (this _ ?_) o
    have hil : i < es.length := by omega
    rw [show es.getD i .undef = es[i] by simp [List.getD_eq_getElem?_getD, hil]]
    exact List.getElem_mem hil
  · obtain ⟨h1, h2⟩ := get he
    exact H.sit b s pos h2 g oc cap (Ghost.restrict_row hg).2
  · exact H.excl _ _ _ _ _ _ _ (Ghost.restrict_row h1).2 (Ghost.restrict_row h2).2
  · simp only [Ghost.restrict] at hz ⊢
    split at hz
    · rename_i hb
      obtain ⟨k1, k2⟩ := H.pend b z sz hz
      exact ⟨by rw [List.getElem?_take, if_pos hb]; exact k1, fun g => by rw [if_pos hb]; exact k2 g⟩
    · cases hz

theorem letGo_ok {base : Nat} {Z : Zone} {G : Ghost} {hp : Heap} {w : World} (H : HRel base Z G hp w) (n : Nat) (as : List AV) :
    ∃ G', HRel base Z G' (letGo n as hp) w ∧ (∀ a v, a ∈ as → Rel Z G w a v → Rel Z G' w a v) ∧ ∀ G0 : Ghost, G0.le G → (∀ b g r, G0.row b g = some r → b < n) → (∀ b z, G0.pend b = some z → b < n) → G0.le G' := by
  unfold letGo
  split
  · rename_i h
    simp only [Bool.and_eq_true, List.all_eq_true] at h
    exact ⟨G.restrict n, H.restrict (by simpa [List.all_eq_true] using h.2), fun a v ha hr => hr.restrict (h.1 a ha), fun G0 h0 hd hd' => Ghost.restrict_le h0 hd hd'⟩
  · exact ⟨G, H, fun _ _ _ h => h, fun _ h _ _ => h⟩

theorem keepLive_len (live : List Nat) : ∀ (i : Nat) (tm : List AV), (keepLive live i tm).length = tm.length
  | _, [] => rfl
  | i, v :: vs => by simp [keepLive, keepLive_len live (i + 1) vs]
theorem keepLive_get (live : List Nat) : ∀ (i : Nat) (tm : List AV) (j : Nat), (keepLive live i tm).getD j .undef = tm.getD j .undef ∨ (keepLive live i tm).getD j .undef = .undef
  | _, [], j => by simp [keepLive]
  | i, v :: vs, j => by
    cases j with
    | zero => simp only [keepLive, List.getD_cons_zero]; split
              · exact .inl rfl
              · exact .inr rfl
    | succ j => simpa [keepLive] using keepLive_get live (i + 1) vs j

theorem normSt_ok {base : Nat} {Z : Zone} {G : Ghost} {w : World} {st : St} {a : Act} (H : HRel base Z G st.hp w) {D : Nat → Prop} (T : TRel Z G w D st.tm a.tmps) (live : List Nat) (n : Nat) :
    ∃ G', HRel base Z G' (normSt live n st).hp w ∧ TRel Z G' w D (normSt live n st).tm a.tmps ∧ ∀ G0 : Ghost, G0.le G → (∀ b g r, G0.row b g = some r → b < n) → (∀ b z, G0.pend b = some z → b < n) → G0.le G' := by
  obtain ⟨G', h1, h2, h3⟩ := letGo_ok H n (keepLive live 0 st.tm)
  refine ⟨G', h1, ⟨by rw [normSt, keepLive_len]; exact T.len, fun i hi hd => ?_⟩, h3⟩
  have hi' : i < (keepLive live 0 st.tm).length := hi
  rcases keepLive_get live 0 st.tm i with e | e
  · refine h2 _ _ ?_ ?_
    · rw [show (normSt live n st).tm.getD i .undef = (keepLive live 0 st.tm)[i] by simp [normSt, List.getD_eq_getElem?_getD, hi']]
      exact List.getElem_mem hi'
    · show Rel Z G w ((keepLive live 0 st.tm).getD i .undef) _
      rw [e]; exact T.rel i (by rw [keepLive_len] at hi'; exact hi') hd
  · show Rel Z G' w ((keepLive live 0 st.tm).getD i .undef) _
    rw [e]; exact .pure (.undef _)

theorem TRel.set {Z : Zone} {G : Ghost} {w : World} {D : Nat → Prop} {tm : List AV} {tmps : Array Value} (T : TRel Z G w D tm tmps) {d : Nat} {x : AV} {v : Value} (h : Rel Z G w x v) : TRel Z G w D (tm.set d x) (tmps.setIfInBounds d v) := by
  refine ⟨by simpa using T.len, fun i hi hd => ?_⟩
  have hi' : i < tm.length := by simpa using hi
  have hl := T.len
  by_cases e : d = i
  · subst e
    have h1 : (tm.set d x).getD d .undef = x := by simp [List.getD_eq_getElem?_getD, hi']
    have h2 : (tmps.setIfInBounds d v).getD d Go.undef = v := by simp [Array.getD, show d < tmps.size by omega]
    rw [h1, h2]; exact h
  · have h1 : (tm.set d x).getD i .undef = tm.getD i .undef := by simp [List.getD_eq_getElem?_getD, List.getElem?_set_ne e]
    have h2 : (tmps.setIfInBounds d v).getD i Go.undef = tmps.getD i Go.undef := by
      rw [Array.getD_eq_getD_getElem?, Array.getD_eq_getD_getElem?, Array.getElem?_setIfInBounds_ne e]
    rw [h1, h2]; exact T.rel i hi' hd

theorem HRel.pushNil {base : Nat} {Z : Zone} {G : Ghost} {hp : Heap} {w : World} (H : HRel base Z G hp w) (sz : Nat) :
    HRel base Z (G.put hp.length 0 (none, 0) sz) (hp ++ [.row [] sz 0 0]) w ∧ G.le (G.put hp.length 0 (none, 0) sz) := by
  have hnone : ∀ g, G.row hp.length g = none := by
    intro g
    cases h : G.row hp.length g with
    | none => rfl
    | some r => exact absurd (H.dom _ _ _ h) (Nat.lt_irrefl _)
  have hle : G.le (G.put hp.length 0 (none, 0) sz) := Ghost.put_le (hnone _) (fun g r h => by rw [hnone] at h; cases h)
  refine ⟨⟨H.lo, H.zone, fun b g r h => ?_, fun b es' sz' wg' com' he => ?_, fun b s pos he g oc cap' hg => ?_, fun b b' g g' c cap1 cap2 h1 h2 => ?_, pend_append H.pend rfl, fun b es' sz' wg' com' he => ?_⟩, hle⟩
  · simp only [List.length_append, List.length_singleton]
    rcases Ghost.put_row h with ⟨rfl, _, _⟩ | h
    · omega
    · have := H.dom _ _ _ h; omega
  · rcases get_append he with ⟨hl, he2⟩ | ⟨rfl, he2⟩
    · obtain ⟨hf', hr'⟩ := H.row b es' sz' wg' com' he2
      refine ⟨hf', fun g oc cap' hg => ?_⟩
      have hg2 : G.row b g = some (oc, cap') := by
        rcases Ghost.put_row hg with ⟨rfl, _, _⟩ | h
        · omega
        · exact h
      obtain ⟨h1, h2, h3, h4, h5⟩ := hr' g oc cap' hg2
      refine ⟨(hle.sz _ _ _ hg2).trans h1, h2, h3, h4, fun c hoc => ?_⟩
      obtain ⟨h6, h7, cs', t', h8, h9, h10⟩ := h5 c hoc
      exact ⟨h6, h7, cs', t', h8, h9, fun hw i o hi ho => (h10 hw i o hi ho).mono (fun _ _ h => h) hle (fun _ _ _ => rfl)⟩
    · injection he2 with e1 e2 e3 e4
      subst e1; subst e2; subst e3; subst e4
      refine ⟨fun i hi => by simp at hi, fun g oc cap' hg => ?_⟩
      rcases Ghost.put_row hg with ⟨_, rfl, hrr⟩ | hg2
      · injection hrr with e1 e2
        subst e1; subst e2
        exact ⟨by simp [Ghost.put], Nat.le_refl _, Nat.le_refl _, fun _ => rfl, fun c hoc => nomatch hoc⟩
      · rw [hnone] at hg2; cases hg2
  · rcases get_append he with ⟨hl, he2⟩ | ⟨_, he2⟩
    · have hg2 : G.row b g = some (oc, cap') := by
        rcases Ghost.put_row hg with ⟨rfl, _, _⟩ | h
        · omega
        · exact h
      exact H.sit b s pos he2 g oc cap' hg2
    · cases he2
  · rcases Ghost.put_row h1 with ⟨rfl, _, e1⟩ | k1 <;> rcases Ghost.put_row h2 with ⟨rfl, _, e2⟩ | k2
    · rfl
    · injection e1 with e1 _; cases e1
    · injection e2 with e2 _; cases e2
    · exact H.excl _ _ _ _ _ _ _ k1 k2
  · rcases get_append he with ⟨hl, he2⟩ | ⟨rfl, he2⟩
    · exact H.wgle _ _ _ _ _ he2
    · injection he2 with e1 e2 e3 e4
      subst e1; subst e3; simp

theorem TRel.mono {Z : Zone} {G G' : Ghost} {w : World} {D : Nat → Prop} {tm : List AV} {tmps : Array Value} (T : TRel Z G w D tm tmps) (h : G.le G') : TRel Z G' w D tm tmps :=
  ⟨T.len, fun i hi hd => (T.rel i hi hd).mono (fun _ _ h => h) h (fun _ _ _ => rfl)⟩

theorem prepOwn_ok {base : Nat} {Z : Zone} {w : World} {a : Act} : ∀ (l : List (Nat × Nat)) {G : Ghost} {st : St}, HRel base Z G st.hp w → TRel Z G w (fun _ => False) st.tm a.tmps →
    ∃ G', HRel base Z G' (prepOwn l st).hp w ∧ TRel Z G' w (fun _ => False) (prepOwn l st).tm a.tmps ∧ G.le G'
  | [], G, st, H, T => ⟨G, H, T, .refl G⟩
  | (d, sz) :: r, G, st, H, T => by
    unfold prepOwn
    split
    · rename_i hd
      obtain ⟨H', hle⟩ := H.pushNil sz
      have hdl : d < st.tm.length := by
        rcases Nat.lt_or_ge d st.tm.length with h | h
        · exact h
        · rw [List.getElem?_eq_none h] at hd; cases hd
      have hrel := T.rel d hdl (fun h => h)
      rw [show st.tm.getD d .undef = .nils by simp [List.getD_eq_getElem?_getD, hd]] at hrel
      have hv := hrel.nils_inv
      have hnew : Rel Z (G.put st.hp.length 0 (none, 0) sz) w (.ms st.hp.length 0 0 0) (.slice none 0 0) := by
        have := Rel.ms (Z := Z) (w := w) st.hp.length 0 0 0 none 0 none (Ghost.put_same G st.hp.length 0 (none, 0) sz) (by omega) (Nat.le_refl _) (fun h => absurd h (Nat.lt_irrefl _)) (fun _ _ => rfl)
        simpa using this
      have T' : TRel Z (G.put st.hp.length 0 (none, 0) sz) w (fun _ => False) (st.tm.set d (.ms st.hp.length 0 0 0)) a.tmps := by
        have := (T.mono hle).set (d := d) (x := .ms st.hp.length 0 0 0) (v := .slice none 0 0) hnew
        have e : a.tmps.setIfInBounds d (.slice none 0 0) = a.tmps := by
          have hds : d < a.tmps.size := by rw [← T.len]; exact hdl
          apply Array.ext_getElem?
          intro i
          by_cases e : d = i
          · subst e
            rw [← hv]; simp [Array.getD, hds]
          · rw [Array.getElem?_setIfInBounds_ne e]
        rwa [e] at this
      obtain ⟨G', h1, h2, h3⟩ := prepOwn_ok r (st := ⟨st.tm.set d (.ms st.hp.length 0 0 0), st.hp ++ [.row [] sz 0 0]⟩) H' T'
      exact ⟨G', h1, h2, hle.trans h3⟩
    · exact prepOwn_ok r H T
end Go.EV
