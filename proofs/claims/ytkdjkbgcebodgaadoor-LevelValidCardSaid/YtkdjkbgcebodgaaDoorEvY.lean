/-
  What is handed to a function without own memory, and calls.
-/
import Derived.Test.YtkdjkbgcebodgaaDoorEvU
set_option linter.unusedSimpArgs false
set_option linter.unusedVariables false
namespace Go.EV
open Go.RowKit
variable {E : Env} {P : Program}

theorem mapO_some {α β : Type} {f : α → Option β} : ∀ {l : List α} {r : List β}, mapO f l = some r → r.length = l.length ∧ ∀ (i : Nat) (a : α), l[i]? = some a → ∃ b, r[i]? = some b ∧ f a = some b
  | [], r, h => by simp only [mapO, Option.some.injEq] at h; subst h; exact ⟨rfl, fun i a h => by simp at h⟩
  | a :: as, r, h => by
    simp only [mapO] at h
    cases hf : f a with
    | none => rw [hf] at h; cases h
    | some b =>
      cases hm : mapO f as with
      | none => rw [hf, hm] at h; cases h
      | some bs =>
        rw [hf, hm] at h; injection h with h; subst h
        obtain ⟨h1, h2⟩ := mapO_some hm
        refine ⟨by simp [h1], fun i x hx => ?_⟩
        cases i with
        | zero => simp at hx; subst hx; exact ⟨b, rfl, hf⟩
        | succ i => simpa using h2 i x (by simpa using hx)

theorem resolve_one {hp : Heap} : ∀ {d : Nat} {v v' : AV}, resolve hp d v = some v' → v.one = true → v'.one = true := by
  intro d v v' h ho
  cases d with
  | zero =>
    simp only [resolve] at h
    split at h
    · injection h with h; subst h; exact ho
    · cases h
  | succ d =>
    cases v <;> simp only [resolve] at h <;> first
      | (simp [AV.one] at ho; done)
      | (injection h with h; subst h; exact ho)
      | (obtain ⟨_, _, rfl⟩ := Option.map_eq_some_iff.1 h; rfl)
      | (injection h with h; subst h; rfl)
      | skip
    all_goals (try (cases h; done))
    all_goals (split at h <;> first | (cases h; done) | skip)
    all_goals (split at h <;> first | (cases h; done) | skip)
    all_goals (obtain ⟨_, _, rfl⟩ := Option.map_eq_some_iff.1 h; rfl)

theorem many_ok {Y : Zone} {Z : Zone} {G : Ghost} {w : World} {f : AV → Option AV} (hf : ∀ v v' x, f v = some v' → Rel Z G w v x → PRel Y w v' x) (hY : ∀ c j, Z c j → Y c j) {l l' : List AV} (h : many f l = some l') :
    l'.length = l.length ∧ ∀ i, i < l.length → ∀ x, Rel Z G w (l.getD i .undef) x → PRel Y w (l'.getD i .undef) x := by
  unfold many at h
  split at h
  · rename_i hp
    injection h with h; subst h
    refine ⟨rfl, fun i hi x hx => ?_⟩
    simp only [List.all_eq_true] at hp
    have : (l.getD i .undef).isPure = true := by
      rw [show l.getD i .undef = l[i] by simp [List.getD_eq_getElem?_getD, hi]]; exact hp _ (List.getElem_mem hi)
    exact (hx.toPure this).mono hY (fun _ _ _ => rfl)
  · obtain ⟨h1, h2⟩ := mapO_some h
    refine ⟨h1, fun i hi x hx => ?_⟩
    obtain ⟨b, hb, hfb⟩ := h2 i l[i] (by simp [hi])
    have e1 : l.getD i .undef = l[i] := by simp [List.getD_eq_getElem?_getD, hi]
    have e2 : l'.getD i .undef = b := by simp [List.getD_eq_getElem?_getD, hb]
    rw [e2]; rw [e1] at hx
    exact hf _ _ _ hfb hx

theorem many_fits {hp : Heap} {d sz : Nat} {l l' : List AV} (h : many (resolve hp d) l = some l') {i : Nat} (hi : i < l.length) (hone : (l.getD i .undef).one = true) : (l'.getD i .undef).one = true := by
  unfold many at h
  split at h
  · injection h with h; subst h; exact hone
  · obtain ⟨h1, h2⟩ := mapO_some h
    obtain ⟨b, hb, hfb⟩ := h2 i l[i] (by simp [hi])
    have e1 : l.getD i .undef = l[i] := by simp [List.getD_eq_getElem?_getD, hi]
    have e2 : l'.getD i .undef = b := by simp [List.getD_eq_getElem?_getD, hb]
    rw [e2]; rw [e1] at hone
    exact resolve_one hfb hone

/-- An element, cell by cell. -/
theorem resolve_cells {Y : Zone} {Z : Zone} {G : Ghost} {w : World} {hp : Heap} {d sz : Nat} (ih : ∀ d', d' ≤ d → ∀ v v' x, resolve hp d' v = some v' → Rel Z G w v x → PRel Y w v' x) (hY : ∀ c j, Z c j → Y c j) {e e' : AV} (h : resolve hp d e = some e') (hf : e.fits sz = true) :
    e'.fits sz = true ∧ ∀ o, o < sz → ∀ x, Rel Z G w (e.cells.getD o .undef) x → PRel Y w (e'.cells.getD o .undef) x := by
  obtain ⟨hl, hone⟩ := fits_iff.1 hf
  have single : e.one = true → e'.fits sz = true ∧ ∀ o, o < sz → ∀ x, Rel Z G w (e.cells.getD o .undef) x → PRel Y w (e'.cells.getD o .undef) x := by
    intro ho
    have ho' := resolve_one h ho
    rw [AV.cells_one ho] at hl
    simp only [List.length_singleton] at hl
    subst hl
    refine ⟨by simp [AV.fits, AV.cells_one ho', ho'], fun o ho1 x hx => ?_⟩
    have : o = 0 := by omega
    subst this
    rw [AV.cells_one ho'] ; rw [AV.cells_one ho] at hx
    simpa using ih d (Nat.le_refl _) e e' x h (by simpa using hx)
  cases e with
  | agg cs =>
    cases d with
    | zero =>
      simp only [resolve] at h
      split at h
      · rename_i hp'
        injection h with h; subst h
        refine ⟨hf, fun o ho x hx => ?_⟩
        exact (hx.toPure (allPure_getD (cs := cs) (by simpa [AV.isPure] using hp') o)).mono hY (fun _ _ _ => rfl)
      · cases h
    | succ d =>
      simp only [resolve] at h
      obtain ⟨cs', hm, rfl⟩ := Option.map_eq_some_iff.1 h
      obtain ⟨h1, h2⟩ := many_ok (Y := Y) (Z := Z) (G := G) (w := w) (fun v v' x => ih d (Nat.le_succ _) v v' x) hY hm
      have hcl : cs.length = sz := hl
      refine ⟨fits_iff.2 ⟨by show cs'.length = sz; omega, fun x hx => ?_⟩, fun o ho x hx => h2 o (by omega) x hx⟩
      obtain ⟨i, hi, rfl⟩ := List.mem_iff_getElem.1 (show x ∈ cs' from hx)
      have hi2 : i < cs.length := by omega
      have := many_fits (sz := sz) hm hi2 (by
        rw [show cs.getD i .undef = cs[i] by simp [List.getD_eq_getElem?_getD, hi2]]
        exact hone _ (List.getElem_mem hi2))
      rwa [show cs'.getD i .undef = cs'[i] by simp [List.getD_eq_getElem?_getD, hi]] at this
  | undef => exact absurd (hone _ (List.mem_singleton.2 rfl)) (by simp [AV.one])
  | tup vs => exact absurd (hone _ (List.mem_singleton.2 rfl)) (by simp [AV.one])
  | _ => exact single rfl

theorem many_cells {Y : Zone} {Z : Zone} {G : Ghost} {w : World} {hp : Heap} {d sz : Nat} (ih : ∀ d', d' ≤ d → ∀ v v' x, resolve hp d' v = some v' → Rel Z G w v x → PRel Y w v' x) (hY : ∀ c j, Z c j → Y c j) {l l' : List AV} (h : many (resolve hp d) l = some l')
    (hf : ∀ i, i < l.length → (l.getD i .undef).fits sz = true) :
    l'.length = l.length ∧ (∀ i, i < l.length → (l'.getD i .undef).fits sz = true) ∧ ∀ i o, i < l.length → o < sz → ∀ x, Rel Z G w ((l.getD i .undef).cells.getD o .undef) x → PRel Y w ((l'.getD i .undef).cells.getD o .undef) x := by
  unfold many at h
  split at h
  · rename_i hp'
    injection h with h; subst h
    refine ⟨rfl, hf, fun i o hi ho x hx => ?_⟩
    simp only [List.all_eq_true] at hp'
    have hpure : (l.getD i .undef).isPure = true := by
      rw [show l.getD i .undef = l[i] by simp [List.getD_eq_getElem?_getD, hi]]; exact hp' _ (List.getElem_mem hi)
    have : ((l.getD i .undef).cells.getD o .undef).isPure = true := by
      generalize l.getD i .undef = e at hpure
      have single : e.cells = [e] → (e.cells.getD o .undef).isPure = true := by
        intro he; rw [he]; cases o with
        | zero => simpa using hpure
        | succ o => simp [AV.isPure]
      cases e with
      | agg cs => exact allPure_getD (cs := cs) (by simpa [AV.isPure] using hpure) o
      | _ => exact single rfl
    exact (hx.toPure this).mono hY (fun _ _ _ => rfl)
  · obtain ⟨h1, h2⟩ := mapO_some h
    have key : ∀ i, i < l.length → resolve hp d (l.getD i .undef) = some (l'.getD i .undef) := by
      intro i hi
      obtain ⟨b, hb, hfb⟩ := h2 i l[i] (by simp [hi])
      rw [show l.getD i .undef = l[i] by simp [List.getD_eq_getElem?_getD, hi], show l'.getD i .undef = b by simp [List.getD_eq_getElem?_getD, hb]]
      exact hfb
    exact ⟨h1, fun i hi => (resolve_cells ih hY (key i hi) (hf i hi)).1, fun i o hi ho x hx => (resolve_cells ih hY (key i hi) (hf i hi)).2 o ho x hx⟩

theorem resolve_ok {base : Nat} {Y Z : Zone} {G : Ghost} {hp : Heap} {w : World} (H : HRel base Z G hp w) (hY : ∀ c j, Z c j → Y c j) (hown : ∀ b g c cap, G.row b g = some (some c, cap) → ∀ j, Y c j) :
    ∀ (d : Nat) (v v' : AV) (x : Value), resolve hp d v = some v' → Rel Z G w v x → PRel Y w v' x := by
  intro d
  induction d using Nat.strongRecOn with
  | _ d ih =>
  intro v v' x h hx
  cases d with
  | zero =>
    simp only [resolve] at h
    split at h
    · rename_i hp'
      injection h with h; subst h
      exact (hx.toPure hp').mono hY (fun _ _ _ => rfl)
    · cases h
  | succ d =>
    have ihd : ∀ d', d' ≤ d → ∀ v v' x, resolve hp d' v = some v' → Rel Z G w v x → PRel Y w v' x := fun d' hd => ih d' (by omega)
    have scal : ∀ u : AV, u.isPure = true → v = u → v' = u → PRel Y w v' x := by
      intro u hu e1 e2; subst e1; subst e2
      exact (hx.toPure hu).mono hY (fun _ _ _ => rfl)
    cases v with
    | undef => simp only [resolve, Option.some.injEq] at h; exact scal _ rfl rfl h.symm
    | int k n => simp only [resolve, Option.some.injEq] at h; exact scal _ rfl rfl h.symm
    | bool b => simp only [resolve, Option.some.injEq] at h; exact scal _ rfl rfl h.symm
    | str s => simp only [resolve, Option.some.injEq] at h; exact scal _ rfl rfl h.symm
    | sl es => simp only [resolve, Option.some.injEq] at h; exact scal _ rfl rfl h.symm
    | ip es i o => simp only [resolve, Option.some.injEq] at h; exact scal _ rfl rfl h.symm
    | nilp => simp only [resolve, Option.some.injEq] at h; exact scal _ rfl rfl h.symm
    | nilf => simp only [resolve, Option.some.injEq] at h; exact scal _ rfl rfl h.symm
    | nili => simp only [resolve, Option.some.injEq] at h; exact scal _ rfl rfl h.symm
    | nils => simp only [resolve, Option.some.injEq] at h; subst h; cases hx.nils_inv; exact .sl0 _ _
    | z0 => simp only [resolve, Option.some.injEq] at h; subst h; obtain ⟨a, rfl⟩ := hx.z0_inv; exact .sl0 _ _
    | it b => simp [resolve] at h
    | agg cs =>
      simp only [resolve] at h
      obtain ⟨cs', hm, rfl⟩ := Option.map_eq_some_iff.1 h
      obtain ⟨vs, rfl, hl, hr⟩ := hx.agg_inv
      obtain ⟨h1, h2⟩ := many_ok (fun v v' x => ihd d (Nat.le_refl _) v v' x) hY hm
      exact .agg _ _ (by omega) fun i hi => h2 i (by omega) _ (hr i (by omega))
    | tup cs =>
      simp only [resolve] at h
      obtain ⟨cs', hm, rfl⟩ := Option.map_eq_some_iff.1 h
      obtain ⟨vs, rfl, hl, hr⟩ := hx.tup_inv
      obtain ⟨h1, h2⟩ := many_ok (fun v v' x => ihd d (Nat.le_refl _) v v' x) hY hm
      exact .tup _ _ (by omega) fun i hi => h2 i (by omega) _ (hr i (by omega))
    | fn f cs =>
      simp only [resolve] at h
      obtain ⟨cs', hm, rfl⟩ := Option.map_eq_some_iff.1 h
      obtain ⟨vs, rfl, hl, hr⟩ := hx.fn_inv
      obtain ⟨h1, h2⟩ := many_ok (fun v v' x => ihd d (Nat.le_refl _) v v' x) hY hm
      exact .fn _ _ _ (by omega) fun i hi => h2 i (by omega) _ (hr i (by omega))
    | iface t v =>
      simp only [resolve] at h
      obtain ⟨v1, hm, rfl⟩ := Option.map_eq_some_iff.1 h
      obtain ⟨y, rfl, hy⟩ := hx.iface_inv
      exact .iface _ _ _ (ihd d (Nat.le_refl _) _ _ _ hm hy)
    | ms b g off len =>
      simp only [resolve] at h
      split at h
      rotate_left
      · cases h
      rename_i es sz wg com hb
      split at h
      rotate_left
      · cases h
      rename_i hw
      obtain ⟨es', hm, rfl⟩ := Option.map_eq_some_iff.1 h
      obtain ⟨oc, cap, a, rfl, hg, hl1, hl2, hla, _⟩ := hx.ms_inv
      obtain ⟨hf, hrow⟩ := H.row b es sz wg com hb
      obtain ⟨hG, hge, _, _, _⟩ := hrow g _ cap hg
      have hlen : ((es.drop off).take len).length = len := by simp; omega
      have hall : ∀ i, i < len → ((es.drop off).take len).getD i .undef = es.getD (off + i) .undef := by
        intro i hi
        simp only [List.getD_eq_getElem?_getD, List.getElem?_take, List.getElem?_drop]
        rw [if_pos hi]
      obtain ⟨k1, k2, k3⟩ := many_cells (Y := Y) (Z := Z) (G := G) (w := w) ihd hY hm (sz := sz) (fun i hi => by rw [hall i (by omega)]; exact hf _ (by omega))
      by_cases h0 : len = 0
      · subst h0
        have : es' = [] := List.length_eq_zero_iff.1 (by rw [k1]; simp)
        subst this
        exact .sl0 _ _
      · obtain ⟨c, rfl, rfl⟩ := hla (by omega)
        have key := fun i (hi : i < len) => row_cells H hb hg hw (i := off + i) (by omega)
        obtain ⟨_, _, _, _, _, cs, t, hh, hcs, _⟩ := key 0 (by omega)
        have he' : es'.length = len := by omega
        rw [hG, ← he']
        refine .sl es' sz c (off * sz) (cap - off) (fun i o => cs.getD ((off + i) * sz + o) Go.undef) (by omega) (fun i hi => k2 i (by omega)) (fun i o hi ho => ?_) (fun i o hi ho => ?_)
        · obtain ⟨_, _, _, _, _, cs', t', hh', _, hcell, _⟩ := key i (by omega)
          rw [hh] at hh'; injection hh' with e; injection e with e1 e2; subst e1
          have := hcell o ho
          refine ⟨?_, hown b g c cap hg _⟩
          rwa [Nat.add_mul, Nat.add_assoc] at this ⊢
        · obtain ⟨_, _, _, _, _, cs', t', hh', _, _, hrel⟩ := key i (by omega)
          rw [hh] at hh'; injection hh' with e; injection e with e1 e2; subst e1
          exact k3 i o (by omega) ho _ (by rw [hall i (by omega)]; exact hrel o ho)
    | mp b g i o =>
      simp only [resolve] at h
      split at h
      rotate_left
      · cases h
      rename_i es sz wg com hb
      split at h
      rotate_left
      · cases h
      rename_i hw
      obtain ⟨es', hm, rfl⟩ := Option.map_eq_some_iff.1 h
      cases hx with
      | pure hx => cases hx
      | mp _ _ _ _ c cap hg hi =>
        obtain ⟨hf, hrow⟩ := H.row b es sz wg com hb
        obtain ⟨hG, hge, _, _, _⟩ := hrow g _ cap hg
        have hlen : (es.take g).length = g := by simp; omega
        have hall : ∀ i, i < g → (es.take g).getD i .undef = es.getD i .undef := by
          intro i hi
          simp only [List.getD_eq_getElem?_getD, List.getElem?_take]
          rw [if_pos hi]
        obtain ⟨k1, k2, k3⟩ := many_cells (Y := Y) (Z := Z) (G := G) (w := w) ihd hY hm (sz := sz) (fun i hi => by rw [hall i (by omega)]; exact hf _ (by omega))
        have key := fun i (hi : i < g) => row_cells H hb hg hw (i := i) hi
        obtain ⟨_, _, _, _, _, cs, t, hh, hcs, _⟩ := key i hi
        rw [hG]
        have := PRel.ip (Z := Y) (w := w) es' i o sz c 0 (fun i o => cs.getD (i * sz + o) Go.undef) (fun i hi => k2 i (by omega)) (fun i o hi ho => by
            obtain ⟨_, _, _, _, _, cs', t', hh', _, hcell, _⟩ := key i (by omega)
            rw [hh] at hh'; injection hh' with e; injection e with e1 e2; subst e1
            simp only [Nat.zero_add]
            exact ⟨hcell o ho, hown b g c cap hg _⟩) (fun i o hi ho => by
            obtain ⟨_, _, _, _, _, cs', t', hh', _, _, hrel⟩ := key i (by omega)
            rw [hh] at hh'; injection hh' with e; injection e with e1 e2; subst e1
            exact k3 i o (by omega) ho _ (by rw [hall i (by omega)]; exact hrel o ho))
        simpa using this

theorem resolve_pure {hp : Heap} {d : Nat} {Z : Zone} {w : World} : ∀ {v v' : AV} {x : Value}, resolve hp d v = some v' → v.isPure = true → PRel Z w v x → PRel Z w v' x := by
  induction d with
  | zero =>
    intro v v' x h hp' hx
    simp only [resolve] at h
    rw [if_pos hp'] at h
    injection h with h; subst h; exact hx
  | succ d ih =>
    intro v v' x h hp' hx
    have allp : ∀ {cs : List AV}, AV.isPure.allPure cs = true → cs.all AV.isPure = true := by
      intro cs
      induction cs with
      | nil => intro _; rfl
      | cons c cs ihc =>
        intro h
        simp only [AV.isPure.allPure, Bool.and_eq_true] at h
        simp [h.1, ihc h.2]
    cases v with
    | agg cs =>
      simp only [resolve] at h
      obtain ⟨cs', hm, rfl⟩ := Option.map_eq_some_iff.1 h
      rw [many, if_pos (allp (by simpa [AV.isPure] using hp'))] at hm
      injection hm with hm; subst hm; exact hx
    | tup cs =>
      simp only [resolve] at h
      obtain ⟨cs', hm, rfl⟩ := Option.map_eq_some_iff.1 h
      rw [many, if_pos (allp (by simpa [AV.isPure] using hp'))] at hm
      injection hm with hm; subst hm; exact hx
    | fn f cs =>
      simp only [resolve] at h
      obtain ⟨cs', hm, rfl⟩ := Option.map_eq_some_iff.1 h
      rw [many, if_pos (allp (by simpa [AV.isPure] using hp'))] at hm
      injection hm with hm; subst hm; exact hx
    | iface t v =>
      simp only [resolve] at h
      obtain ⟨v1, hm, rfl⟩ := Option.map_eq_some_iff.1 h
      cases hx with
      | iface _ _ y hy => exact .iface _ _ _ (ih hm (by simpa [AV.isPure] using hp') hy)
    | nils => simp only [resolve, Option.some.injEq] at h; subst h; cases hx; exact .sl0 _ _
    | z0 => simp only [resolve, Option.some.injEq] at h; subst h; cases hx; exact .sl0 _ _
    | ms => simp [AV.isPure] at hp'
    | mp => simp [AV.isPure] at hp'
    | it => simp [AV.isPure] at hp'
    | _ => simp only [resolve, Option.some.injEq] at h; subst h; exact hx
end Go.EV
/-
  What a call has made may be read as a value, once nobody else leads to it.
-/
set_option linter.unusedSimpArgs false
set_option linter.unusedVariables false
namespace Go.EV
open Go.RowKit
def Ghost.above (G : Ghost) (n : Nat) : Ghost := ⟨fun b g => if n ≤ b then G.row b g else none, G.sz, fun b => if n ≤ b then G.pend b else none⟩
theorem Ghost.above_row {G : Ghost} {n b g : Nat} {r : Option Nat × Nat} (h : (G.above n).row b g = some r) : n ≤ b ∧ G.row b g = some r := by
  simp only [Ghost.above] at h
  split at h
  · rename_i hb; exact ⟨hb, h⟩
  · cases h
theorem allOver_getD {n : Nat} : ∀ {cs : List AV}, AV.over.allOver n cs = true → ∀ i, (cs.getD i .undef).over n = true
  | [], _, i => by simp [AV.over]
  | v :: vs, h, i => by
    simp only [AV.over.allOver, Bool.and_eq_true] at h
    cases i with
    | zero => simpa using h.1
    | succ i => simpa using allOver_getD h.2 i
theorem Rel.above {Z : Zone} {G : Ghost} {w : World} {a : AV} {v : Value} {n : Nat} (h : Rel Z G w a v) (hu : a.over n = true) : Rel Z (G.above n) w a v := by
  have row : ∀ b g r, G.row b g = some r → n ≤ b → (G.above n).row b g = some r := by
    intro b g r h hb; simp only [Ghost.above]; rw [if_pos hb]; exact h
  induction h with
  | pure h => exact .pure h
  | agg cs vs hl _ ih => exact .agg cs vs hl fun i hi => ih i hi (allOver_getD (by simpa [AV.over] using hu) i)
  | tup cs vs hl _ ih => exact .tup cs vs hl fun i hi => ih i hi (allOver_getD (by simpa [AV.over] using hu) i)
  | fn f cs vs hl _ ih => exact .fn f cs vs hl fun i hi => ih i hi (allOver_getD (by simpa [AV.over] using hu) i)
  | iface t a v _ ih => exact .iface t a v (ih (by simpa [AV.over] using hu))
  | ms b g off len oc cap a h0 h1 h2 ha hn => exact .ms b g off len oc cap a (row _ _ _ h0 (by simpa [AV.over] using hu)) h1 h2 ha hn
  | mp b g i o c cap h0 hi => exact .mp (G := G.above n) b g i o c cap (row _ _ _ h0 (by simpa [AV.over] using hu)) hi
  | it b c cap h0 => exact .it b c cap (row _ _ _ h0 (by simpa [AV.over] using hu))
theorem over_cells {n : Nat} {a : AV} (h : a.over n = true) (o : Nat) : (a.cells.getD o .undef).over n = true := by
  have single : a.cells = [a] → (a.cells.getD o .undef).over n = true := by
    intro e; rw [e]
    cases o with
    | zero => simpa using h
    | succ o => simp [AV.over]
  cases a with
  | agg cs => exact allOver_getD (cs := cs) (by simpa [AV.over] using h) o
  | _ => exact single rfl
def mask (n : Nat) (hp : Heap) : Heap := List.replicate n (HB.sit [] 0) ++ hp.drop n
theorem mask_get {n : Nat} {hp : Heap} (hn : n ≤ hp.length) {b : Nat} {x : HB} (h : (mask n hp)[b]? = some x) : (b < n ∧ x = .sit [] 0) ∨ (n ≤ b ∧ hp[b]? = some x) := by
  unfold mask at h
  rw [List.getElem?_append] at h
  split at h
  · rename_i hb
    simp at hb
    rw [List.getElem?_replicate, if_pos hb] at h
    exact .inl ⟨hb, (Option.some.inj h).symm⟩
  · rename_i hb
    simp at hb
    rw [List.length_replicate, List.getElem?_drop, show n + (b - n) = b by omega] at h
    exact .inr ⟨hb, h⟩
theorem HRel.above {base : Nat} {Z : Zone} {G : Ghost} {hp : Heap} {w : World} (H : HRel base Z G hp w) {n : Nat} (hn : n ≤ hp.length) (hu : (hp.drop n).all (HB.over n) = true) : HRel base Z (G.above n) (mask n hp) w := by
  have hlen : (mask n hp).length = hp.length := by simp [mask]; omega
  have hall : ∀ {b : Nat} {x : HB}, n ≤ b → hp[b]? = some x → x.over n = true := by
    intro b x hb h
    simp only [List.all_eq_true] at hu
    refine hu x (List.mem_of_getElem? (i := b - n) ?_)
    rw [List.getElem?_drop, show n + (b - n) = b by omega]; exact h
  refine ⟨H.lo, H.zone, fun b g r h => ?_, fun b es sz wg com he => ?_, fun b s pos he g oc cap hg => ?_, fun b b' g g' c cap cap' h1 h2 => ?_, fun b z sz hz => ?_, fun b es sz wg com he => ?_⟩
  · rw [hlen]; exact H.dom b g r (Ghost.above_row h).2
  · rcases mask_get hn he with ⟨_, h2⟩ | ⟨h1, h2⟩
    · cases h2
    obtain ⟨hf, hr⟩ := H.row b es sz wg com h2
    refine ⟨hf, fun g oc cap hg => ?_⟩
    obtain ⟨_, hg⟩ := Ghost.above_row hg
    obtain ⟨k1, k2, k3, k4, k5⟩ := hr g oc cap hg
    refine ⟨k1, k2, k3, k4, fun c hoc => ?_⟩
    obtain ⟨k6, k7, cs, t, k8, k9, k10⟩ := k5 c hoc
    refine ⟨k6, k7, cs, t, k8, k9, fun hw i o hi ho => (k10 hw i o hi ho).above ?_⟩
    have := hall h1 h2
    simp only [HB.over, List.all_eq_true] at this
    refine over_cells (this _ ?_) o
    have hil : i < es.length := by omega
    rw [show es.getD i .undef = es[i] by simp [List.getD_eq_getElem?_getD, hil]]
    exact List.getElem_mem hil
  · obtain ⟨hb, hg⟩ := Ghost.above_row hg
    rcases mask_get hn he with ⟨h1, _⟩ | ⟨h1, h2⟩
    · omega
    · exact H.sit b s pos h2 g oc cap hg
  · exact H.excl _ _ _ _ _ _ _ (Ghost.above_row h1).2 (Ghost.above_row h2).2
  · simp only [Ghost.above] at hz ⊢
    split at hz
    · rename_i hb
      obtain ⟨k1, k2⟩ := H.pend b z sz hz
      refine ⟨?_, fun g => by rw [if_pos hb]; exact k2 g⟩
      unfold mask
      rw [List.getElem?_append_right (by simpa using hb), List.length_replicate, List.getElem?_drop, show n + (b - n) = b by omega]
      exact k1
    · cases hz
  · rcases mask_get hn he with ⟨_, h2⟩ | ⟨h1, h2⟩
    · cases h2
    · exact H.wgle _ _ _ _ _ h2
theorem HRel.rezone {base : Nat} {Z Z2 : Zone} {G : Ghost} {hp : Heap} {w : World} (H : HRel base Z G hp w) (hsub : ∀ c j, Z c j → Z2 c j) (hlt : ∀ c j, Z2 c j → c < w.heap.size)
    (hnew : ∀ c j, Z2 c j → Z c j ∨ ∀ b g cap, G.row b g ≠ some (some c, cap)) : HRel base Z2 G hp w := by
  refine ⟨H.lo, hlt, H.dom, fun b es sz wg com he => ?_, H.sit, H.excl, H.pend, H.wgle⟩
  obtain ⟨hf, hr⟩ := H.row b es sz wg com he
  refine ⟨hf, fun g oc cap hg => ?_⟩
  obtain ⟨k1, k2, k3, k4, k5⟩ := hr g oc cap hg
  refine ⟨k1, k2, k3, k4, fun c hoc => ?_⟩
  obtain ⟨k6, k7, cs, t, k8, k9, k10⟩ := k5 c hoc
  refine ⟨k6, fun j hj => ?_, cs, t, k8, k9, fun hw i o hi ho => (k10 hw i o hi ho).mono hsub (.refl G) fun _ _ _ => rfl⟩
  rcases hnew c j hj with h | h
  · exact k7 j h
  · subst hoc; exact absurd hg (h b g cap)
theorem frozen_ok {base : Nat} {Z : Zone} {G : Ghost} {hp : Heap} {w : World} (H : HRel base Z G hp w) {n : Nat} {r r' : AV} {v : Value} (h : frozen n hp r = some r') (hr : Rel Z G w r v) :
    ∃ Z2 : Zone, HRel base Z2 (G.restrict n) (hp.take n) w ∧ (∀ c j, Z c j → Z2 c j) ∧ (∀ c j, Z2 c j → Z c j ∨ base ≤ c) ∧ PRel Z2 w r' v := by
  unfold frozen at h
  split at h
  rotate_left
  · cases h
  rename_i hc
  simp only [Bool.and_eq_true] at hc
  obtain ⟨⟨c1, c2⟩, c3⟩ := hc
  obtain ⟨r2, hr2, rfl⟩ := Option.map_eq_some_iff.1 h
  have blk : ∀ b g c cap, G.row b g = some (some c, cap) → base ≤ c ∧ c < w.heap.size := by
    intro b g c cap hg
    have hb := H.dom b g _ hg
    obtain ⟨x, hx⟩ : ∃ x, hp[b]? = some x := ⟨hp[b], List.getElem?_eq_getElem hb⟩
    cases x with
    | row es sz wg com =>
      obtain ⟨k6, _, cs, t, k8, _⟩ := ((H.row b es sz wg com hx).2 g _ cap hg).2.2.2.2 c rfl
      refine ⟨k6, ?_⟩
      rcases Nat.lt_or_ge c w.heap.size with h | h
      · exact h
      · rw [Array.getElem?_eq_none h] at k8; cases k8
    | sit s pos =>
      obtain ⟨_, c', e, h1, h2⟩ := H.sit b s pos hx g _ cap hg
      injection e with e; subst e
      refine ⟨h1, ?_⟩
      rcases Nat.lt_or_ge c w.heap.size with h | h
      · exact h
      · rw [Array.getElem?_eq_none h] at h2; cases h2
  refine ⟨fun c j => Z c j ∨ ∃ b g cap, n ≤ b ∧ G.row b g = some (some c, cap), ?_, fun c j h => .inl h, ?_, ?_⟩
  · refine (H.restrict c3).rezone (fun c j h => .inl h) ?_ ?_
    · rintro c j (h | ⟨b, g, cap, _, hg⟩)
      · exact H.zone c j h
      · exact (blk b g c cap hg).2
    · rintro c j (h | ⟨b, g, cap, hb, hg⟩)
      · exact .inl h
      · refine .inr fun b' g' cap' hg' => ?_
        obtain ⟨h1, h2⟩ := Ghost.restrict_row hg'
        have := H.excl b b' g g' c cap cap' hg h2
        omega
  · rintro c j (h | ⟨b, g, cap, _, hg⟩)
    · exact .inl h
    · exact .inr (blk b g c cap hg).1
  · rcases Nat.lt_or_ge hp.length n with hlt | hn
    · -- nothing lies from n on
      have e : List.replicate n (HB.sit [] 0) ++ hp.drop n = mask n hp := rfl
      have hp0 : r.isPure = true ∨ True := .inr trivial
      have hdrop : hp.drop n = [] := List.drop_eq_nil_of_le (by omega)
      have H0 : HRel base Z (G.above n) (mask n hp) w := by
        have nor : ∀ b g r, (G.above n).row b g = some r → False := by
          intro b g r h
          obtain ⟨h1, h2⟩ := Ghost.above_row h
          have := H.dom b g r h2
          omega
        have get : ∀ {b : Nat} {x : HB}, (mask n hp)[b]? = some x → x = .sit [] 0 := by
          intro b x h
          unfold mask at h
          rw [hdrop, List.append_nil, List.getElem?_replicate] at h
          split at h
          · exact (Option.some.inj h).symm
          · cases h
        refine ⟨H.lo, H.zone, fun b g r h => (nor b g r h).elim, fun b es sz wg com he => ?_, fun b s pos he g oc cap hg => (nor b g _ hg).elim, fun b b' g g' c cap cap' h1 h2 => (nor b g _ h1).elim, fun b z sz hz => ?_, fun b es sz wg com he => ?_⟩
        · exact absurd (get he) (by simp)
        · simp only [Ghost.above] at hz
          split at hz
          · rename_i hb
            have := lt_of_get (H.pend b z sz hz).1
            omega
          · cases hz
        · exact absurd (get he) (by simp)
      exact PRel.norm (resolve_ok H0 (fun c j h => .inl h) (fun b g c cap hg j => .inr ⟨b, g, cap, (Ghost.above_row hg).1, (Ghost.above_row hg).2⟩) depth r r2 v hr2 (hr.above c1))
    · exact PRel.norm (resolve_ok (H.above hn c2) (fun c j h => .inl h) (fun b g c cap hg j => .inr ⟨b, g, cap, (Ghost.above_row hg).1, (Ghost.above_row hg).2⟩) depth r r2 v hr2 (hr.above c1))
end Go.EV
/-
  Calls, and the operations of a region in the text's order.
-/
set_option linter.unusedSimpArgs false
set_option linter.unusedVariables false
namespace Go.EV
open Go.RowKit
variable {E : Env} {P : Program}

def Enters (P : Program) (f : FuncId) : Prop := ∃ d, P.funcs[f]? = some d ∧ d.body.isNone = false ∧ (d.name == "runtime.NumGoroutine") = false
theorem Enters.run {f : FuncId} (h : Enters P f) (args : Array Value) (w : World) : (callFunc f args).run P w = .ok (.enter f args) w := by
  obtain ⟨d, h1, h2, h3⟩ := h
  unfold callFunc
  simp only [Sem.run_bind, run_program, Result.andThen_ok, h1, h2, h3, Bool.false_eq_true, if_false, Sem.run_pure]

/-- What the evaluator's calls are worth. -/
def CallOk (P : Program) (w0 : World) (callF : CallF) : Prop :=
  ∀ f args hp r hp', callF f args hp = some (r, hp') → Enters P f ∧ ∀ (base : Nat) (Z : Zone) (G : Ghost) (w : World) (vs : Array Value), Sit w0 base Z w → HRel base Z G hp w → LRel Z G w args vs →
    Calls P f vs w fun e w' => ∃ v, e = .returned v ∧ OpPost base Z G hp' w r v w'

theorem HRel.nothing {base : Nat} {Z : Zone} {w : World} (h1 : base ≤ w.heap.size) (h2 : ∀ c j, Z c j → c < w.heap.size) : HRel base Z .empty [] w :=
  ⟨h1, h2, fun b g r h => (nomatch h), fun b es sz wg com h => by simp at h, fun b s pos h => by simp at h, fun b b' g g' c cap cap' h => (nomatch h), fun b z sz h => (nomatch h), fun b es sz wg com h => by simp at h⟩

theorem pureF_ok {w0 : World} {callF : CallF} (hC : CallOk P w0 callF) {f : FuncId} {args : List AV} {r : AV} (h : pureF callF f args = some r) : Enters P f ∧ PureOk P w0 f args r := by
  unfold pureF at h
  split at h
  rotate_left
  · cases h
  rename_i r1 hp1 hc
  obtain ⟨hen, hcall⟩ := hC _ _ _ _ _ hc
  obtain ⟨r2, hr2, h⟩ : ∃ r2, resolve hp1 depth r1 = some r2 ∧ r2.norm = r := by simpa [Option.map_eq_some_iff] using h
  subst h
  refine ⟨hen, fun Z w vs hb ho hz hl => ?_⟩
  refine (hcall w.heap.size Z .empty w vs ⟨hb, ho, hb.size⟩ (HRel.nothing (Nat.le_refl _) hz) ⟨by rw [normL_length]; exact hl.1, fun i hi => .pure (by rw [normL_getD]; exact (hl.2 i (by rwa [normL_length] at hi)).norm)⟩).mono ?_
  rintro e w' ⟨v, rfl, Z', G', EX, H', hr⟩
  refine ⟨v, fun c j => Z' c j ∨ (w.heap.size ≤ c ∧ c < w'.heap.size), rfl, EX.below, fun c j h => .inl (EX.zsub c j h), fun c j h => ?_, fun c j h => ?_, ?_⟩
  · rcases h with h | h
    · exact EX.znew c j h
    · exact .inr h.1
  · rcases h with h | h
    · exact H'.zone c j h
    · exact h.2
  · refine PRel.norm ?_
    refine resolve_ok H' (fun c j h => .inl h) (fun b g c cap hg j => .inr ⟨?_, H'.old hg⟩) depth r1 r2 v hr2 hr
    have hb := H'.dom b g _ hg
    obtain ⟨x, hx⟩ : ∃ x, hp1[b]? = some x := ⟨hp1[b], List.getElem?_eq_getElem hb⟩
    cases x with
    | row es sz wg com => exact (((H'.row b es sz wg com hx).2 g _ cap hg).2.2.2.2 c rfl).1
    | sit s pos => obtain ⟨_, c', e, h1, _⟩ := H'.sit b s pos hx g _ cap hg; injection e with e; subst e; exact h1

theorem mapO_resolve {hp : Heap} {Y Z : Zone} {G : Ghost} {w : World} {args args' : List AV} {vs : Array Value} (h : mapO (resolve hp depth) args = some args') (hl : LRel Z G w args vs)
    (hr : ∀ v v' x, v ∈ args → resolve hp depth v = some v' → Rel Z G w v x → PRel Y w v' x) : LPRel Y w args' vs := by
  obtain ⟨h1, h2⟩ := mapO_some h
  refine ⟨by rw [h1]; exact hl.1, fun i hi => ?_⟩
  have hi' : i < args.length := by omega
  obtain ⟨b, hb, hfb⟩ := h2 i args[i] (by simp [hi'])
  have := hl.2 i hi'
  rw [show args.getD i .undef = args[i] by simp [List.getD_eq_getElem?_getD, hi']] at this
  rw [show args'.getD i .undef = b by simp [List.getD_eq_getElem?_getD, hb]]
  exact hr _ _ _ (List.getElem_mem hi') hfb this

/-- A call with values whose own memory is read first. -/
theorem callPure_ok {w0 : World} {base : Nat} {Z : Zone} {G : Ghost} {hp : Heap} {w : World} (S : Sit w0 base Z w) (H : HRel base Z G hp w) {f : FuncId} {args args' : List AV} {vs : Array Value} {r : AV} (hl : LRel Z G w args vs) (hm : mapO (resolve hp depth) args = some args')
    (hP : PureOk P w0 f args' r) (hc : (args.all AV.isPure || r.scalar) = true) : Calls P f vs w fun e w' => ∃ v, e = .returned v ∧ OpPost base Z G hp w r v w' := by
  by_cases hp' : args.all AV.isPure = true
  · have hlp : LPRel Z w args' vs := mapO_resolve hm hl fun v v' x hv hr hx => by
      simp only [List.all_eq_true] at hp'
      exact resolve_pure hr (hp' v hv) (hx.toPure (hp' v hv))
    refine (hP Z w vs S.below S.old H.zone hlp).mono ?_
    rintro e w' ⟨v, Z', rfl, hb, h1, h2, h3, hr⟩
    obtain ⟨H', EX⟩ := H.afterPure hb h1 h2 h3
    exact ⟨v, rfl, Z', G, EX, H', .pure hr⟩
  · have hs : r.scalar = true := by simpa [hp'] using hc
    have hlp : LPRel (fun c _ => c < w.heap.size) w args' vs := mapO_resolve hm hl fun v v' x _ hr hx =>
      resolve_ok H (fun c j h => H.zone c j h) (fun b g c cap hg j => H.old hg) depth v v' x hr hx
    refine (hP (fun c _ => c < w.heap.size) w vs S.below (fun c j h => Nat.lt_of_lt_of_le h S.below.size) (fun c j h => h) hlp).mono ?_
    rintro e w' ⟨v, Z', rfl, hb, h1, h2, h3, hr⟩
    obtain ⟨H', EX⟩ := H.afterPure hb (fun c j h => h) (fun c j h => .inl h) (fun c j h => Nat.lt_of_lt_of_le (H.zone c j h) hb.size)
    exact ⟨v, rfl, Z, G, EX, H', .pure (hr.ofScalar hs)⟩

theorem evCall_ok {w0 : World} (hE : EnvOk E P w0) {callF : CallF} (hC : CallOk P w0 callF) {base : Nat} {Z : Zone} {G : Ghost} {hp hp' : Heap} {w : World} (S : Sit w0 base Z w) (H : HRel base Z G hp w) {f : FuncId} {args : List AV} {vs : Array Value} {r : AV} (hl : LRel Z G w args vs)
    (h : evCall E callF hp f args = some (r, hp')) : Enters P f ∧ Calls P f vs w fun e w' => ∃ v, e = .returned v ∧ OpPost base Z G hp' w r v w' := by
  unfold evCall at h
  split at h
  · split at h
    rotate_left
    · cases h
    rename_i args' hm
    split at h
    rotate_left
    · cases h
    rename_i r' hr
    split at h
    rotate_left
    · cases h
    rename_i hc
    injection h with h; injection h with h1 h2; subst h1; subst h2
    obtain ⟨h1, h2⟩ := pureF_ok hC hr
    exact ⟨h1, callPure_ok S H hl hm h2 hc⟩
  · split at h
    rotate_left
    · cases h
    rename_i r' hp1 hc
    injection h with h; injection h with h1 h2; subst h1; subst h2
    obtain ⟨h1, h2⟩ := hC _ _ _ _ _ hc
    refine ⟨h1, (h2 base Z G w vs S H hl).mono ?_⟩
    rintro e w' ⟨v, rfl, Z', G', EX, H', hr⟩
    obtain ⟨G2, k1, k2, k3⟩ := letGo_ok H' hp.length [r']
    exact ⟨v, rfl, Z', G2, ⟨EX.zsub, k3 G EX.gle (fun b g r h => H.dom b g r h) (fun b z h => lt_of_get (H.pend b z.1 z.2 h).1), EX.below, EX.keep, EX.znew⟩, k1, k2 _ _ (by simp) hr⟩
  · split at h
    rotate_left
    · cases h
    rename_i r' hp1 hc
    split at h
    rotate_left
    · cases h
    rename_i r2 hfr
    injection h with h; injection h with h1 h2; subst h1; subst h2
    obtain ⟨h1, h2⟩ := hC _ _ _ _ _ hc
    refine ⟨h1, (h2 base Z G w vs S H hl).mono ?_⟩
    rintro e w' ⟨v, rfl, Z', G', EX, H', hr⟩
    obtain ⟨Z2, k1, k2, k3, k4⟩ := frozen_ok H' hfr hr
    refine ⟨v, rfl, Z2, G'.restrict hp.length, ⟨fun c j h => k2 c j (EX.zsub c j h), Ghost.restrict_le EX.gle (fun b g r h => H.dom b g r h) (fun b z h => lt_of_get (H.pend b z.1 z.2 h).1), EX.below, EX.keep, fun c j h => ?_⟩, k1, .pure k4⟩
    rcases k3 c j h with h | h
    · exact EX.znew c j h
    · exact .inr h
  · split at h
    rotate_left
    · cases h
    rename_i args' hm
    split at h
    rotate_left
    · cases h
    rename_i r' hr
    split at h
    rotate_left
    · cases h
    rename_i hc
    injection h with h; injection h with h1 h2; subst h1; subst h2
    obtain ⟨h1, h2⟩ := hE.lib _ _ _ hr
    exact ⟨h2, callPure_ok S H hl hm h1 hc⟩

/-- An operation, a call or not. -/
theorem evAny_wp {w0 : World} (hE : EnvOk E P w0) {callF : CallF} (hC : CallOk P w0 callF) {base : Nat} {Z : Zone} {G : Ghost} {hp hp' : Heap} {w : World} (S : Sit w0 base Z w) (H : HRel base Z G hp w) {D : Nat → Prop} {tm : List AV} {a : Act} (T : TRel Z G w D tm a.tmps) {o : Oper} {r : AV}
    (hD : ∀ t, .tmp t ∈ o.op.operands → ¬ D t) (h : evAny E callF tm hp o.op = some (r, hp')) (next : Act → World → Prop) (Q : Exit → Act → World → Prop) (hn : ∀ v w', OpPost base Z G hp' w r v w' → next (a.put o.dst v) w') : o.wp P a w next Q := by
  have plain : evOp E tm hp o.op = some (r, hp') → o.wp P a w next Q := by
    intro h
    obtain ⟨v, w', h1, h2⟩ := evOp_ok hE S H T hD h
    unfold Oper.wp
    rcases h1 with h1 | ⟨h1, rfl⟩
    · rw [h1, Oper.upon_value]; exact hn v w' h2
    · rw [h1, Oper.upon_skip]; exact hn _ w' h2
  unfold evAny at h
  split at h
  · rename_i f args ts hop
    split at h
    rotate_left
    · cases h
    rename_i g caps hf
    have hfr := opnd_ok hE S T f (fun t ht => hD t (by rw [hop, ht]; simp [Op.operands, Call.operands]))
    rw [hf] at hfr
    obtain ⟨cs, hcs, hcl, hcr⟩ := hfr.fn_inv
    have hargs := opnds_ok hE S T args (fun t ht => hD t (by rw [hop]; simp [Op.operands, Call.operands, ht]))
    have hl : LRel Z G w (args.toList.map (opnd E tm) ++ caps) (args.map a.eval ++ cs) := by
      refine ⟨by simp [hcl], fun i hi => ?_⟩
      rw [append_getD]
      by_cases hlt : i < (args.toList.map (opnd E tm)).length
      · rw [if_pos hlt]
        have hlt' : i < args.size := by simpa using hlt
        have : (args.map a.eval ++ cs).getD i Go.undef = (args.map a.eval).getD i Go.undef := by
          rw [Array.getD_eq_getD_getElem?, Array.getD_eq_getD_getElem?, Array.getElem?_append_left (by simpa using hlt')]
        rw [this]; exact hargs.2 i hlt
      · rw [if_neg hlt]
        have hge : args.size ≤ i := by simpa using hlt
        have : (args.map a.eval ++ cs).getD i Go.undef = cs.getD (i - args.size) Go.undef := by
          rw [Array.getD_eq_getD_getElem?, Array.getD_eq_getD_getElem?, Array.getElem?_append_right (by simpa using hge)]; simp
        rw [this]
        have := hcr (i - args.size) (by simp at hi; omega)
        simpa using this
    obtain ⟨hen, hcall⟩ := evCall_ok hE hC S H hl h
    unfold Oper.wp
    have hrun : (execOp a.eval o).run P w = .ok (.enter g (args.map a.eval ++ cs)) w := by
      unfold execOp
      rw [hop]
      simp only [Go.resolve, hcs, Deferred.ofValue, Sem.run_bind, Sem.run_pure, Result.andThen_ok, invoke, Array.empty_append, hen.run]
    rw [hrun, Oper.upon_enter]
    refine hcall.mono ?_
    rintro e w' ⟨v, rfl, hpost⟩
    exact hn v w' hpost
  · exact plain h

theorem put_rel {Z : Zone} {G : Ghost} {w : World} {D : Nat → Prop} {tm : List AV} {a : Act} (T : TRel Z G w D tm a.tmps) (dst : Option Tmp) {x : AV} {v : Value} (h : Rel Z G w x v) : TRel Z G w D (putAV tm dst x) (a.put dst v).tmps := by
  cases dst with
  | none => exact T
  | some d => exact T.set h
theorem put_defers (a : Act) (dst : Option Tmp) (v : Value) : (a.put dst v).defers = a.defers := by cases dst <;> rfl

theorem guard_ok {Z : Zone} {G : Ghost} {w : World} {D : Nat → Prop} {tm : List AV} {a : Act} (T : TRel Z G w D tm a.tmps) {ops : Array Oper} {o : Oper} {b : Bool}
    (hD : ∀ j want d, o.guard = some (j, want) → (ops[j]?).bind (·.dst) = some d → ¬ D d) (h : guardAV ops.toList tm o = some b) : Region.wanted o (yielded ops a.tmps) = b := by
  unfold guardAV at h
  unfold Region.wanted
  split at h
  · rename_i hg; rw [hg]; injection h
  · rename_i j want hg
    rw [hg]
    simp only [Array.getElem?_toList] at h
    simp only [yielded]
    cases hd : (ops[j]?).bind (·.dst) with
    | none => rw [hd] at h; cases h; rfl
    | some d =>
      rw [hd] at h
      simp only at h
      have hl := T.len
      have hD' := hD j want d hg hd
      split at h
      · rename_i c hc
        injection h with h; subst h
        have hdl : d < tm.length := by
          rcases Nat.lt_or_ge d tm.length with h | h
          · exact h
          · rw [List.getElem?_eq_none h] at hc; cases hc
        have hr := T.rel d hdl hD'
        rw [show tm.getD d .undef = .bool c by simp [List.getD_eq_getElem?_getD, hc]] at hr
        have hv := hr.bool_inv
        have hds : d < a.tmps.size := by rw [← T.len]; exact hdl
        have : a.tmps[d]? = some (.bool c) := by rw [← hv]; exact Array.getD_of_lt _ _ _ hds
        simp [this]
      · rename_i hc
        injection h with h; subst h
        have hdl : d < tm.length := by
          rcases Nat.lt_or_ge d tm.length with h | h
          · exact h
          · rw [List.getElem?_eq_none h] at hc; cases hc
        have hr := T.rel d hdl hD'
        rw [show tm.getD d .undef = .tup [] by simp [List.getD_eq_getElem?_getD, hc]] at hr
        obtain ⟨us, hu, _⟩ := hr.tup_inv
        have hds : d < a.tmps.size := by rw [← T.len]; exact hdl
        have : a.tmps[d]? = some (.tuple us) := by rw [← hu]; exact Array.getD_of_lt _ _ _ hds
        simp [this]
      · cases h

/-- What a piece of code comes to. -/
def Lands (base : Nat) (Z : Zone) (G : Ghost) (w : World) (st : St) (a : Act) (w' : World) : Prop :=
  a.defers = [] ∧ ∃ Z' G', Ext base Z G w Z' G' w' ∧ HRel base Z' G' st.hp w' ∧ TRel Z' G' w' (fun _ => False) st.tm a.tmps
theorem Lands.trans {base : Nat} {Z Z' : Zone} {G G' : Ghost} {w w' w'' : World} {st : St} {a : Act} (h : Ext base Z G w Z' G' w') (k : Lands base Z' G' w' st a w'') : Lands base Z G w st a w'' := by
  obtain ⟨h1, Z2, G2, e, H, T⟩ := k
  exact ⟨h1, Z2, G2, h.trans e, H, T⟩

theorem evOps_wp {w0 : World} (hE : EnvOk E P w0) {callF : CallF} (hC : CallOk P w0 callF) {base : Nat} {ops : Array Oper} {Q : Exit → Act → World → Prop} : ∀ (l : List Oper) (i : Nat) (st st' : St) (Z : Zone) (G : Ghost) (a : Act) (w : World), ops.toList.drop i = l → Sit w0 base Z w → HRel base Z G st.hp w →
    TRel Z G w (fun _ => False) st.tm a.tmps → a.defers = [] → evOps E callF ops.toList l st = some st' → (∀ a' w', Lands base Z G w st' a' w' → Q .normal a' w') → wpOps P ops Q (List.range' i l.length) a w
  | [], i, st, st', Z, G, a, w, _, S, H, T, hd, h, hQ => by
    simp only [evOps, Option.some.injEq] at h; subst h
    exact hQ a w ⟨hd, Z, G, .refl _ _ _ _, H, T⟩
  | o :: l, i, st, st', Z, G, a, w, hl, S, H, T, hd, h, hQ => by
    have hi : i < ops.toList.length := by
      rcases Nat.lt_or_ge i ops.toList.length with h | h
      · exact h
      · rw [List.drop_eq_nil_of_le h] at hl; cases hl
    have ho : ops[i]? = some o := by
      have : ops.toList[i]? = some o := by
        have h1 : (ops.toList.drop i)[0]? = some o := by rw [hl]; rfl
        simpa using h1
      simpa using this
    have hl' : ops.toList.drop (i + 1) = l := by
      rw [← List.drop_drop, hl]; rfl
    simp only [List.length_cons, List.range'_succ]
    simp only [wpOps, ho]
    simp only [evOps] at h
    split at h
    · rename_i hg
      rw [if_pos (guard_ok T (fun _ _ _ _ _ h => h) hg)]
      split at h
      · rename_i v hp hv
        refine .inl (evAny_wp hE hC S H T (fun _ _ h => h) hv _ _ fun x w' hpost => ?_)
        obtain ⟨Z', G', EX, H', hr⟩ := hpost
        exact evOps_wp hE hC l (i + 1) _ st' Z' G' _ w' hl' (S.ext EX) H' (put_rel (T.ext EX) o.dst hr) (by rw [put_defers]; exact hd) h fun a' w'' hla => hQ a' w'' (hla.trans EX)
      · cases h
    · rename_i hg
      rw [if_neg (by rw [guard_ok T (fun _ _ _ _ _ h => h) hg]; exact Bool.false_ne_true)]
      have hu : Rel Z G w (.tup []) Go.undef := .pure (.tup [] #[] rfl (fun i hi => by simp at hi))
      exact evOps_wp hE hC l (i + 1) ⟨putAV st.tm o.dst (.tup []), st.hp⟩ st' Z G _ w hl' S H (put_rel T o.dst hu) (by rw [put_defers]; exact hd) h hQ
    · cases h
end Go.EV
/-
  Regions that draw their order: whatever order the edges allow comes to what the evaluator says.
-/
set_option linter.unusedSimpArgs false
set_option linter.unusedVariables false
namespace Go.EV
open Go.RowKit
variable {E : Env} {P : Program}

/-! Which slots an operation looks at. -/
theorem opnd_congr {tm tm' : List AV} {x : Operand} (h : ∀ t, x = .tmp t → tm.getD t .undef = tm'.getD t .undef) : opnd E tm x = opnd E tm' x := by
  cases x with
  | tmp t => exact h t rfl
  | _ => rfl
theorem map_opnd_congr {tm tm' : List AV} {xs : List Operand} (h : ∀ t, .tmp t ∈ xs → tm.getD t .undef = tm'.getD t .undef) : xs.map (opnd E tm) = xs.map (opnd E tm') :=
  List.map_congr_left fun x hx => opnd_congr fun t ht => h t (ht ▸ hx)

theorem evOp_congr {tm tm' : List AV} {hp : Heap} {op : Op} (h : ∀ t, .tmp t ∈ op.operands → tm.getD t .undef = tm'.getD t .undef) : evOp E tm hp op = evOp E tm' hp op := by
  have O : ∀ x, x ∈ op.operands → opnd E tm x = opnd E tm' x := fun x hx => opnd_congr fun t ht => h t (ht ▸ hx)
  cases op <;> simp only [evOp] <;> simp only [Op.operands] at O h
  case move x => rw [O x (by simp)]
  case assign x => rw [O x (by simp)]
  case pick c a b => rw [O c (by simp), O a (by simp), O b (by simp)]
  case box t x => rw [O x (by simp)]
  case build t ps =>
    have : (ps.toList.map fun p => (p.1, opnd E tm p.2)) = (ps.toList.map fun p => (p.1, opnd E tm' p.2)) :=
      List.map_congr_left fun p hp => by rw [O p.2 (by simp only [List.mem_toArray, List.mem_map]; exact ⟨p, hp, rfl⟩)]
    rw [this]
  case buildSlice t n ps =>
    have : (ps.toList.map fun p => (p.1, opnd E tm p.2)) = (ps.toList.map fun p => (p.1, opnd E tm' p.2)) :=
      List.map_congr_left fun p hp => by rw [O p.2 (by simp only [List.mem_toArray, List.mem_map]; exact ⟨p, hp, rfl⟩)]
    rw [this]
  case load t x => rw [O x (by simp)]
  case store t x y => rw [O x (by simp), O y (by simp)]
  case nilCheck x => rw [O x (by simp)]
  case binOp op t x y yt => rw [O x (by simp), O y (by simp)]
  case unOp op t x => rw [O x (by simp)]
  case convert s d x => rw [O x (by simp)]
  case makeInterface t x => rw [O x (by simp)]
  case makeFunc fn first caps =>
    cases fn <;> try rfl
    simp only
    rw [map_opnd_congr (tm := tm) (tm' := tm') fun t ht => h t (by simp at ht; simp [ht])]
  case makeSlice t l c => rw [O l (by simp), O c (by simp)]
  case slice t x lo hi mx =>
    have e1 : lo.map (opnd E tm) = lo.map (opnd E tm') := by cases lo with | none => rfl | some y => simp only [Option.map_some]; rw [O y (by simp)]
    have e2 : hi.map (opnd E tm) = hi.map (opnd E tm') := by cases hi with | none => rfl | some y => simp only [Option.map_some]; rw [O y (by simp)]
    have e3 : mx.map (opnd E tm) = mx.map (opnd E tm') := by cases mx with | none => rfl | some y => simp only [Option.map_some]; rw [O y (by simp)]
    rw [O x (by simp), e1, e2, e3]
  case fieldAddr t x f => rw [O x (by simp)]
  case field t x f => rw [O x (by simp)]
  case indexAddr t x i => rw [O x (by simp), O i (by simp)]
  case index t x i => rw [O x (by simp), O i (by simp)]
  case range t x => rw [O x (by simp)]
  case next x b => cases b <;> simp only [] <;> rw [O x (by simp)]
  case extract x i => rw [O x (by simp)]
  case call c =>
    obtain ⟨callee, args, ts⟩ := c
    cases callee <;> try rfl
    simp only
    rw [map_opnd_congr (tm := tm) (tm' := tm') fun t ht => h t (by simp at ht; simp [Call.operands, ht])]

theorem evAny_congr {callF : CallF} {tm tm' : List AV} {hp : Heap} {op : Op} (h : ∀ t, .tmp t ∈ op.operands → tm.getD t .undef = tm'.getD t .undef) : evAny E callF tm hp op = evAny E callF tm' hp op := by
  unfold evAny
  split
  · rename_i f args ts
    have hf : opnd E tm f = opnd E tm' f := opnd_congr fun t ht => h t (by simp [Op.operands, Call.operands, ht])
    have ha : args.toList.map (opnd E tm) = args.toList.map (opnd E tm') := map_opnd_congr fun t ht => h t (by simp at ht; simp [Op.operands, Call.operands, ht])
    rw [hf, ha]
  · exact evOp_congr h

theorem mem_looksAt {ops : Array Oper} {o : Oper} {t : Nat} (h : .tmp t ∈ o.op.operands) : t ∈ o.looksAt ops := by
  unfold Oper.looksAt
  refine List.mem_append_left _ ?_
  simp only [List.mem_filterMap]
  exact ⟨.tmp t, by simpa using h, rfl⟩
theorem guard_looksAt {ops : Array Oper} {o : Oper} {j : Nat} {want : Bool} {d : Nat} (hg : o.guard = some (j, want)) (hd : (ops[j]?).bind (·.dst) = some d) : d ∈ o.looksAt ops := by
  unfold Oper.looksAt
  refine List.mem_append_right _ ?_
  rw [hg]; simp only [hd]; simp
theorem guardAV_congr {ops : Array Oper} {o : Oper} {tm tm' : List AV} (h : ∀ t, t ∈ o.looksAt ops → tm[t]? = tm'[t]?) : guardAV ops.toList tm o = guardAV ops.toList tm' o := by
  unfold guardAV
  split
  · rfl
  · rename_i j want hg
    simp only [Array.getElem?_toList]
    cases hd : (ops[j]?).bind (·.dst) with
    | none => rfl
    | some d => simp only; rw [h d (guard_looksAt hg hd)]

theorem safeOp_congr {o : Oper} {d : Nat} {tm tm' : List AV} (h : ∀ t, .tmp t ∈ o.op.operands → tm.getD t .undef = tm'.getD t .undef) (hd : tm[d]? = tm'[d]?) : safeOp E tm o d = safeOp E tm' o d := by
  have O : ∀ x, x ∈ o.op.operands → opnd E tm x = opnd E tm' x := fun x hx => opnd_congr fun t ht => h t (ht ▸ hx)
  unfold safeOp
  rw [hd]
  split
  · split
    · rename_i c hop
      have : ∀ x, x ∈ c.args.toList → opnd E tm x = opnd E tm' x := fun x hx => O x (by rw [hop]; simp only [Op.operands, Call.operands]; exact Array.mem_append_right _ (by simpa using hx))
      exact all_congr fun x hx => by rw [this x hx]
    · exact all_congr fun x hx => by rw [O x (by simpa using hx)]
  · rfl
where
  all_congr {α : Type} {l : List α} {f g : α → Bool} (h : ∀ x ∈ l, f x = g x) : l.all f = l.all g := by
    induction l with
    | nil => rfl
    | cons a l ih => simp only [List.all_cons]; rw [h a (by simp), ih fun x hx => h x (by simp [hx])]

theorem all_congr {α : Type} {l : List α} {f g : α → Bool} (h : ∀ x ∈ l, f x = g x) : l.all f = l.all g := by
  induction l with
  | nil => rfl
  | cons a l ih => simp only [List.all_cons]; rw [h a (by simp), ih fun x hx => h x (by simp [hx])]

theorem evD_congr {callF : CallF} {ops : Array Oper} {conf : List Nat} {o : Oper} {tm tm' : List AV} {hp : Heap} (h : ∀ t, t ∈ o.looksAt ops → tm[t]? = tm'[t]?) (hc : ∀ d, d ∈ conf → tm[d]? = tm'[d]?) :
    evD E callF ops.toList conf o tm hp = evD E callF ops.toList conf o tm' hp := by
  have h' : ∀ t, .tmp t ∈ o.op.operands → tm.getD t .undef = tm'.getD t .undef := fun t ht => by rw [List.getD_eq_getElem?_getD, List.getD_eq_getElem?_getD, h t (mem_looksAt ht)]
  unfold evD
  rw [guardAV_congr h, evAny_congr h']
  have : conf.all (safeOp E tm o) = conf.all (safeOp E tm' o) := all_congr fun d hd => safeOp_congr h' (hc d hd)
  rw [this]

/-! What an operation does to own memory. -/
theorem evAny_silent {callF : CallF} {o : Oper} (hk : opKind E o = 0) {tm : List AV} {hp h : Heap} {r : AV} (he : evAny E callF tm hp o.op = some (r, h)) : h = hp ∧ ∀ hp', evAny E callF tm hp' o.op = some (r, hp') := by
  have M : ∀ {x : Option AV}, x.map (·, hp) = some (r, h) → h = hp ∧ ∀ hp' : Heap, x.map (·, hp') = some (r, hp') := by
    intro x hx
    cases x with
    | none => cases hx
    | some y => injection hx with hx; injection hx with h1 h2; subst h1; exact ⟨h2.symm, fun _ => rfl⟩
  obtain ⟨dst, op, ty, pos, after, guard⟩ := o
  cases op <;> simp only [opKind] at hk <;> try (first | (cases hk; done) | omega)
  case move x => simp only [evAny, evOp] at he ⊢; injection he with he; injection he with h1 h2; subst h1; exact ⟨h2.symm, fun _ => rfl⟩
  case assign x => simp only [evAny, evOp] at he ⊢; injection he with he; injection he with h1 h2; subst h1; exact ⟨h2.symm, fun _ => rfl⟩
  case pick c a b =>
    simp only [evAny, evOp] at he ⊢
    split at he <;> first | (cases he; done) | skip
    all_goals (injection he with he; injection he with h1 h2; subst h1; exact ⟨h2.symm, fun _ => rfl⟩)
  case load t a =>
    cases a <;> simp at hk
    rename_i g
    simp only [evAny, evOp] at he ⊢
    have key : ∀ hp', loadAV E hp' t (opnd E tm (.global g)) = loadAV E hp t (opnd E tm (.global g)) := by
      intro hp'
      simp only [opnd]
      cases E.gl g with
      | none => simp [loadAV]
      | some v => simp only [loadAV]; cases E.ti t <;> rfl
    obtain ⟨h1, h2⟩ := M he
    exact ⟨h1, fun hp' => by rw [key]; exact h2 hp'⟩
  case nilCheck x =>
    simp only [evAny, evOp] at he ⊢
    split at he <;> first | (cases he; done) | skip
    all_goals (injection he with he; injection he with h1 h2; subst h1; exact ⟨h2.symm, fun _ => rfl⟩)
  case binOp op t x y yt => simp only [evAny, evOp] at he ⊢; exact M he
  case unOp op t x => simp only [evAny, evOp] at he ⊢; exact M he
  case convert s d x => simp only [evAny, evOp] at he ⊢; exact M he
  case makeInterface t x =>
    simp only [evAny, evOp] at he ⊢
    split at he
    · rename_i ti ht
      split at he
      · cases he
      · injection he with he; injection he with h1 h2; subst h1; exact ⟨h2.symm, fun _ => rfl⟩
    · cases he
  case makeFunc fn first caps =>
    cases fn <;> simp only [evAny, evOp] at he ⊢ <;> try (cases he; done)
    split at he
    · rename_i hs
      injection he with he; injection he with h1 h2; subst h1
      exact ⟨h2.symm, fun _ => by rw [if_pos hs]⟩
    · cases he
  case fieldAddr t x f => simp only [evAny, evOp] at he ⊢; exact M he
  case field t x f => simp only [evAny, evOp] at he ⊢; exact M he
  case index t x i => simp only [evAny, evOp] at he ⊢; exact M he
  case extract x i =>
    simp only [evAny, evOp] at he ⊢
    split at he
    · exact M he
    · cases he
  case call c =>
    obtain ⟨callee, args, ts⟩ := c
    cases callee with
    | value f => cases f <;> simp at hk <;> (split at hk <;> simp at hk)
    | invoke => simp at hk
    | builtin b =>
      simp only [evAny, evOp] at he ⊢
      cases b <;> simp at hk
      all_goals
        simp only [builtinAV] at he ⊢
        split at he <;> first | (cases he; done) | skip
        all_goals (first | exact M he | (cases he; done) | (rename_i q _ _; cases q))

theorem map_hp {x : Option AV} {hp h : Heap} {r : AV} (hx : x.map (·, hp) = some (r, h)) : h = hp ∧ x = some r := by
  cases x with
  | none => cases hx
  | some y => injection hx with hx; injection hx with h1 h2; subst h1; exact ⟨h2.symm, rfl⟩

theorem evCall_reads {callF : CallF} {hp h : Heap} {f : FuncId} {args : List AV} {r : AV} (hm : ¬(E.mode f = 1 ∨ E.mode f = 3)) (he : evCall E callF hp f args = some (r, h)) : h = hp := by
  unfold evCall at he
  split at he
  · split at he
    · split at he
      · split at he
        · injection he with he; injection he with h1 h2; exact h2.symm
        · cases he
      · cases he
    · cases he
  · rename_i h1; exact absurd (.inl h1) hm
  · rename_i h1; exact absurd (.inr h1) hm
  · split at he
    · split at he
      · split at he
        · injection he with he; injection he with h1 h2; exact h2.symm
        · cases he
      · cases he
    · cases he

theorem evAny_reads {callF : CallF} {o : Oper} (hk : opKind E o = 1) {tm : List AV} {hp h : Heap} {r : AV} (he : evAny E callF tm hp o.op = some (r, h)) : h = hp := by
  obtain ⟨dst, op, ty, pos, after, guard⟩ := o
  cases op <;> simp only [opKind] at hk <;> try (first | (cases hk; done) | omega)
  case load t a => simp only [evAny, evOp] at he; exact (map_hp he).1
  case indexAddr t x i => simp only [evAny, evOp] at he; exact (map_hp he).1
  case slice t x lo hi mx => simp only [evAny, evOp] at he; exact (map_hp he).1
  case call c =>
    obtain ⟨callee, args, ts⟩ := c
    cases callee with
    | value f =>
      cases f with
      | func g =>
        have hm : ¬(E.mode g = 1 ∨ E.mode g = 3) := by intro e; rcases e with e | e <;> simp [e] at hk
        simp only [evAny, opnd] at he
        exact evCall_reads hm he
      | _ => simp at hk
    | invoke => simp at hk
    | builtin b => cases b <;> simp at hk

/-- Pure values are read alike in every own memory. -/
theorem resolve_any {hp hp' : Heap} : ∀ {d : Nat} {v : AV}, v.isPure = true → resolve hp d v = resolve hp' d v := by
  intro d
  induction d with
  | zero => intro v _; rfl
  | succ d ih =>
    intro v hv
    have allp : ∀ {cs : List AV}, AV.isPure.allPure cs = true → cs.all AV.isPure = true := by
      intro cs
      induction cs with
      | nil => intro _; rfl
      | cons c cs ihc =>
        intro h
        simp only [AV.isPure.allPure, Bool.and_eq_true] at h
        simp [h.1, ihc h.2]
    cases v with
    | agg cs => simp only [resolve, many, if_pos (allp (show AV.isPure.allPure cs = true by simpa [AV.isPure] using hv))]
    | tup cs => simp only [resolve, many, if_pos (allp (show AV.isPure.allPure cs = true by simpa [AV.isPure] using hv))]
    | fn f cs => simp only [resolve, many, if_pos (allp (show AV.isPure.allPure cs = true by simpa [AV.isPure] using hv))]
    | iface t v => simp only [resolve]; rw [ih (by simpa [AV.isPure] using hv)]
    | ms => simp [AV.isPure] at hv
    | mp => simp [AV.isPure] at hv
    | it => simp [AV.isPure] at hv
    | _ => rfl
theorem mapO_congr {α β : Type} {f g : α → Option β} : ∀ {l : List α}, (∀ x ∈ l, f x = g x) → mapO f l = mapO g l
  | [], _ => rfl
  | v :: l, h => by
    simp only [mapO]
    rw [h v (by simp), mapO_congr fun x hx => h x (by simp [hx])]
theorem mapO_any {hp hp' : Heap} {d : Nat} {l : List AV} (h : l.all AV.isPure = true) : mapO (resolve hp d) l = mapO (resolve hp' d) l :=
  mapO_congr fun x hx => resolve_any (by simp only [List.all_eq_true] at h; exact h x hx)
theorem evCall_any {callF : CallF} {hp hp' h : Heap} {f : FuncId} {args : List AV} {r : AV} (hm : ¬(E.mode f = 1 ∨ E.mode f = 3)) (hp' : Heap) (ha : args.all AV.isPure = true) (he : evCall E callF hp f args = some (r, h)) : evCall E callF hp' f args = some (r, hp') := by
  unfold evCall at he ⊢
  rw [mapO_any (hp := hp) (hp' := hp') ha] at he
  split at he
  · split at he
    · rename_i args' hargs
      split at he
      · rename_i r' hr
        split at he
        · rename_i hc
          injection he with he; injection he with h1 h2; subst h1
          simp only [hargs, hr, if_pos hc]
        · cases he
      · cases he
    · cases he
  · rename_i h1; exact absurd (.inl h1) hm
  · rename_i h1; exact absurd (.inr h1) hm
  · split at he
    · rename_i args' hargs
      split at he
      · rename_i r' hr
        split at he
        · rename_i hc
          injection he with he; injection he with h1 h2; subst h1
          simp only [hargs, hr, if_pos hc]
        · cases he
      · cases he
    · cases he

/-- Two heaps that part in row b alone. -/
def PartAt (b : Nat) (hp hp' : Heap) : Prop := ∀ k, k ≠ b → hp[k]? = hp'[k]?
theorem loadAV_part {b : Nat} {hp hp' : Heap} (h : PartAt b hp hp') {t : TypeId} {a : AV} (ha : a.avoids b = true) : loadAV E hp t a = loadAV E hp' t a := by
  unfold loadAV
  split
  · rfl
  · rename_i ti b' g i o _
    have : b' ≠ b := by simpa [AV.avoids] using ha
    rw [h b' this]
  · rfl
theorem evAny_part {callF : CallF} {o : Oper} (hk : opKind E o = 1) {tm : List AV} {hp hp' h : Heap} {r : AV} {b : Nat} {d g i q : Nat} (hpt : PartAt b hp hp') (hd : tm[d]? = some (.mp b g i q)) (hs : safeOp E tm o d = true) (he : evAny E callF tm hp o.op = some (r, h)) :
    evAny E callF tm hp' o.op = some (r, hp') := by
  unfold safeOp at hs
  rw [hd] at hs
  simp only at hs
  obtain ⟨dst, op, ty, pos, after, guard⟩ := o
  cases op <;> simp only [opKind] at hk <;> try (first | (cases hk; done) | omega)
  case load t a =>
    simp only [Op.operands] at hs
    simp only [evAny, evOp] at he ⊢
    have ha : (opnd E tm a).avoids b = true := by simpa using hs
    rw [← loadAV_part hpt ha]
    obtain ⟨_, hx⟩ := map_hp he
    rw [hx]; rfl
  case indexAddr t x ix =>
    simp only [Op.operands] at hs
    simp only [evAny, evOp] at he ⊢
    have ha : (opnd E tm x).avoids b = true := by simp at hs; exact hs.1
    obtain ⟨_, hx⟩ := map_hp he
    have : indexAddrAV E hp' t (opnd E tm x) (opnd E tm ix) = indexAddrAV E hp t (opnd E tm x) (opnd E tm ix) := by
      unfold indexAddrAV
      split
      · split
        · rfl
        · rename_i e b' g' off len _ hms
          rw [hms] at ha
          have : b' ≠ b := by simpa [AV.avoids] using ha
          rw [hpt b' this]
        · rfl
      · rfl
    rw [this, hx]; rfl
  case slice t x lo hi mx =>
    simp only [Op.operands] at hs
    simp only [evAny, evOp] at he ⊢
    have ha : (opnd E tm x).avoids b = true := by simp at hs; exact hs.1
    obtain ⟨_, hx⟩ := map_hp he
    have : ∀ lo hi mx, sliceAV E hp' t (opnd E tm x) lo hi mx = sliceAV E hp t (opnd E tm x) lo hi mx := by
      intro lo hi mx
      unfold sliceAV
      split
      · split
        · rfl
        · split
          · split
            · rfl
            · rename_i b' g' off len hms
              rw [hms] at ha
              have : b' ≠ b := by simpa [AV.avoids] using ha
              unfold sliceMs
              rw [hpt b' this]
            · rfl
            · rfl
            · rfl
          · rfl
        · rfl
      · rfl
    rw [this, hx]; rfl
  case call c =>
    obtain ⟨callee, args, ts⟩ := c
    cases callee with
    | value f =>
      cases f with
      | func g =>
        have hm : ¬(E.mode g = 1 ∨ E.mode g = 3) := by intro e; rcases e with e | e <;> simp [e] at hk
        simp only [evAny, opnd] at he ⊢
        refine evCall_any (hp := hp) (hp' := hp') (h := h) hm hp' ?_ he
        simp only [List.append_nil, List.all_map]
        exact hs
      | _ => simp at hk
    | invoke => simp at hk
    | builtin b => cases b <;> simp at hk

theorem store_part {callF : CallF} {o : Oper} {ds : List Nat} (hst : storesTo o ds = true) {tm : List AV} {hp h : Heap} {r : AV} (he : evAny E callF tm hp o.op = some (r, h)) :
    ∃ d b g i q, d ∈ ds ∧ d ∈ o.op.operands.toList.filterMap (fun | .tmp t => some t | _ => none) ∧ tm[d]? = some (.mp b g i q) ∧ PartAt b hp h := by
  unfold storesTo at hst
  split at hst
  · rename_i t d v hop
    rw [hop] at he ⊢
    simp only [evAny, evOp] at he
    cases hs : storeAV E hp t (opnd E tm (.tmp d)) (opnd E tm v) with
    | none => rw [hs] at he; cases he
    | some hp1 =>
      rw [hs] at he; injection he with he; injection he with h1 h2; subst h2
      unfold storeAV at hs
      split at hs
      · rename_i ti b g i q hti hmp
        split at hs
        · rename_i es sz wg com hb
          split at hs
          · split at hs
            · split at hs
              · injection hs with hs; subst hs
                refine ⟨d, b, g, i, q, by simpa using hst, by simp [Op.operands], ?_, fun k hk => by rw [List.getElem?_set_ne (fun e => hk e.symm)]⟩
                simp only [opnd, List.getD_eq_getElem?_getD] at hmp
                cases hd : tm[d]? with
                | none => rw [hd] at hmp; cases hmp
                | some x => rw [hd] at hmp; simp at hmp; rw [hmp]
              · cases hs
            · cases hs
          · cases hs
        · cases hs
      · cases hs
  · cases hst
end Go.EV
/-
  Regions that draw their order: operations of a region change places.
-/
set_option linter.unusedSimpArgs false
set_option linter.unusedVariables false
namespace Go.EV
open Go.RowKit
variable {E : Env} {P : Program}

theorem foldr_addNew_mem : ∀ {l : List Nat} {x : Nat}, x ∈ l.foldr addNew [] → x ∈ l
  | [], x, h => by simp at h
  | a :: l, x, h => by
    simp only [List.foldr_cons, addNew] at h
    split at h
    · exact List.mem_cons_of_mem _ (foldr_addNew_mem h)
    · rcases List.mem_cons.1 h with rfl | h
      · exact List.mem_cons_self
      · exact List.mem_cons_of_mem _ (foldr_addNew_mem h)
theorem snoc_ind {α : Type} {p : List α → Prop} (h0 : p []) (h1 : ∀ l a, p l → p (l ++ [a])) (l : List α) : p l := by
  have h : ∀ r : List α, p r.reverse := by
    intro r
    induction r with
    | nil => exact h0
    | cons a r ih => rw [List.reverse_cons]; exact h1 _ _ ih
  have := h l.reverse
  rwa [List.reverse_reverse] at this
theorem ancs_snoc (l : List Oper) (o : Oper) : ancs (l ++ [o]) = ancs l ++ [ancStep (ancs l) o] := by simp [ancs]
theorem ancs_len (l : List Oper) : (ancs l).length = l.length := by
  refine snoc_ind (p := fun l => (ancs l).length = l.length) rfl (fun l o ih => ?_) l
  rw [ancs_snoc]; simp [ih]

/-- What must come before an operation has come, where what comes is closed under the edges. -/
theorem ancs_closed {L : Nat → Prop} : ∀ (l : List Oper), (∀ (k : Nat) (o : Oper), l[k]? = some o → L k → ∀ e ∈ anyEdges o, L e) → ∀ (j : Nat) (o : Oper), l[j]? = some o → (∀ e ∈ anyEdges o, L e) → ∀ i ∈ (ancs l).getD j [], L i := by
  intro l
  refine snoc_ind (p := fun l => (∀ (k : Nat) (o : Oper), l[k]? = some o → L k → ∀ e ∈ anyEdges o, L e) → ∀ (j : Nat) (o : Oper), l[j]? = some o → (∀ e ∈ anyEdges o, L e) → ∀ i ∈ (ancs l).getD j [], L i) ?_ ?_ l
  · intro _ j o h; simp at h
  · intro l o ih
    intro hc j oj hj hL i hi
    have hc' : ∀ (k : Nat) (o : Oper), l[k]? = some o → L k → ∀ e ∈ anyEdges o, L e := fun k ok hk => hc k ok (by
      have : k < l.length := by
        rcases Nat.lt_or_ge k l.length with h | h
        · exact h
        · rw [List.getElem?_eq_none h] at hk; cases hk
      rw [List.getElem?_append_left this]; exact hk)
    rw [ancs_snoc] at hi
    rcases Nat.lt_or_ge j l.length with hlt | hge
    · rw [List.getElem?_append_left hlt] at hj
      have : (ancs l ++ [ancStep (ancs l) o]).getD j [] = (ancs l).getD j [] := by
        simp only [List.getD_eq_getElem?_getD]
        rw [List.getElem?_append_left (by rw [ancs_len]; exact hlt)]
      rw [this] at hi
      exact ih hc' j oj hj hL i hi
    · have hjl : j = l.length := by
        rcases Nat.lt_or_ge j (l ++ [o]).length with h | h
        · simp at h; omega
        · rw [List.getElem?_eq_none h] at hj; cases hj
      subst hjl
      have ho : oj = o := by simp at hj; exact hj.symm
      subst ho
      have : (ancs l ++ [ancStep (ancs l) oj]).getD l.length [] = ancStep (ancs l) oj := by
        simp only [List.getD_eq_getElem?_getD]
        rw [List.getElem?_append_right (by rw [ancs_len]; exact Nat.le_refl _), ancs_len]; simp
      rw [this] at hi
      have hi2 := foldr_addNew_mem hi
      obtain ⟨e, he, hie⟩ := List.mem_flatMap.1 hi2
      rcases List.mem_cons.1 hie with rfl | hie
      · exact hL _ he
      · cases hoe : l[e]? with
        | none =>
          have : l.length ≤ e := by
            rcases Nat.lt_or_ge e l.length with h | h
            · rw [List.getElem?_eq_getElem h] at hoe; cases hoe
            · exact h
          simp only [List.getD_eq_getElem?_getD] at hie
          rw [List.getElem?_eq_none (by rw [ancs_len]; exact this)] at hie
          simp at hie
        | some oe => exact ih hc' e oe hoe (hc' e oe hoe (hL e he)) i hie

theorem putAV_get {tm : List AV} {dst : Option Tmp} {v : AV} {t : Nat} (h : dst ≠ some t) : (putAV tm dst v)[t]? = tm[t]? := by
  cases dst with
  | none => rfl
  | some d => simp only [putAV]; rw [List.getElem?_set_ne (fun e => h (by rw [e]))]
theorem putAV_len {tm : List AV} {dst : Option Tmp} {v : AV} : (putAV tm dst v).length = tm.length := by cases dst <;> simp [putAV]
theorem putAV_comm {tm : List AV} {x y : Option Tmp} {u v : AV} (h : ∀ d, x = some d → y ≠ some d) : putAV (putAV tm x u) y v = putAV (putAV tm y v) x u := by
  cases x with
  | none => rfl
  | some d =>
    cases y with
    | none => rfl
    | some e =>
      simp only [putAV]
      exact List.set_comm _ _ (fun he => h d rfl (by rw [he]))

/-- Own memory alone: two operations in either order. -/
theorem heap_comm {callF : CallF} {ops : Array Oper} {x y : Oper} {cx cy : List Nat} {tm : List AV} {hp hp1 hp2 : Heap} {rx ry : AV}
    (hk : (opKind E x == 0 || opKind E y == 0 || (opKind E x == 1 && opKind E y == 1) || (opKind E x == 1 && storesTo y cx) || (opKind E y == 1 && storesTo x cy)) = true)
    (A : evD E callF ops.toList cx x tm hp = some (rx, hp1)) (B : evD E callF ops.toList cy y tm hp1 = some (ry, hp2)) :
    ∃ hp1', evD E callF ops.toList cy y tm hp = some (ry, hp1') ∧ evD E callF ops.toList cx x tm hp1' = some (rx, hp2) := by
  unfold evD at A B ⊢
  cases hgx : guardAV ops.toList tm x with
  | none => rw [hgx] at A; cases A
  | some bx =>
    cases hgy : guardAV ops.toList tm y with
    | none => rw [hgy] at B; cases B
    | some gy =>
      rw [hgx] at A; rw [hgy] at B
      cases bx with
      | false =>
        simp only at A; injection A with A; injection A with h1 h2; subst h1; subst h2
        exact ⟨hp2, B, rfl⟩
      | true =>
        cases gy with
        | false =>
          simp only at B; injection B with B; injection B with h1 h2; subst h1; subst h2
          exact ⟨hp, rfl, A⟩
        | true =>
          simp only at A B ⊢
          have ax : evAny E callF tm hp x.op = some (rx, hp1) ∧ (opKind E x = 1 → cx.all (safeOp E tm x) = true) := by
            split at A
            · split at A
              · rename_i h; exact ⟨A, fun _ => h⟩
              · cases A
            · rename_i h; exact ⟨A, fun h' => absurd h' (by simpa using h)⟩
          have ay : evAny E callF tm hp1 y.op = some (ry, hp2) ∧ (opKind E y = 1 → cy.all (safeOp E tm y) = true) := by
            split at B
            · split at B
              · rename_i h; exact ⟨B, fun _ => h⟩
              · cases B
            · rename_i h; exact ⟨B, fun h' => absurd h' (by simpa using h)⟩
          have mkx : ∀ h h', evAny E callF tm h x.op = some (rx, h') → (if (opKind E x == 1) = true then (if cx.all (safeOp E tm x) = true then evAny E callF tm h x.op else none) else evAny E callF tm h x.op) = some (rx, h') := by
            intro h h' he
            split
            · rename_i hk1; rw [if_pos (ax.2 (by simpa using hk1))]; exact he
            · exact he
          have mky : ∀ h h', evAny E callF tm h y.op = some (ry, h') → (if (opKind E y == 1) = true then (if cy.all (safeOp E tm y) = true then evAny E callF tm h y.op else none) else evAny E callF tm h y.op) = some (ry, h') := by
            intro h h' he
            split
            · rename_i hk1; rw [if_pos (ay.2 (by simpa using hk1))]; exact he
            · exact he
          simp only [Bool.or_eq_true, Bool.and_eq_true, beq_iff_eq] at hk
          rcases hk with (((hk | hk) | hk) | hk) | hk
          · obtain ⟨h1, h2⟩ := evAny_silent hk ax.1
            subst h1
            exact ⟨hp2, mky _ _ ay.1, mkx _ _ (h2 hp2)⟩
          · obtain ⟨h1, h2⟩ := evAny_silent hk ay.1
            subst h1
            exact ⟨hp, mky _ _ (h2 hp), mkx _ _ ax.1⟩
          · have h1 := evAny_reads hk.1 ax.1
            have h2 := evAny_reads hk.2 ay.1
            subst h1; subst h2
            exact ⟨_, mky _ _ ay.1, mkx _ _ ax.1⟩
          · have h1 := evAny_reads hk.1 ax.1
            subst h1
            obtain ⟨d, b, g, i, q, hd, _, htm, hpt⟩ := store_part hk.2 ay.1
            have hs := ax.2 hk.1
            simp only [List.all_eq_true] at hs
            exact ⟨hp2, mky _ _ ay.1, mkx _ _ (evAny_part hk.1 hpt htm (hs d hd) ax.1)⟩
          · have h2 := evAny_reads hk.1 ay.1
            subst h2
            obtain ⟨d, b, g, i, q, hd, _, htm, hpt⟩ := store_part hk.2 ax.1
            have hs := ay.2 hk.1
            simp only [List.all_eq_true] at hs
            have hpt' : PartAt b hp2 hp := fun k hk => (hpt k hk).symm
            exact ⟨hp, mky _ _ (evAny_part hk.1 hpt' htm (hs d hd) ay.1), mkx _ _ ax.1⟩

theorem step_comm {callF : CallF} {ops : Array Oper} {anc : List (List Nat)} {k i : Nat} {x y : Oper} (hx : ops[k]? = some x) (hy : ops[i]? = some y) (hap : Oper.apart ops x y = true)
    (hk : (opKind E x == 0 || opKind E y == 0 || (opKind E x == 1 && opKind E y == 1) || (opKind E x == 1 && storesTo y (confSlots ops.toList anc k)) || (opKind E y == 1 && storesTo x (confSlots ops.toList anc i))) = true)
    (hcx : ∀ d, d ∈ confSlots ops.toList anc k → x.dst ≠ some d ∧ y.dst ≠ some d) (hcy : ∀ d, d ∈ confSlots ops.toList anc i → x.dst ≠ some d ∧ y.dst ≠ some d) {st s1 s2 : St}
    (A : stepD E callF ops.toList anc k st = some s1) (B : stepD E callF ops.toList anc i s1 = some s2) : ∃ t, stepD E callF ops.toList anc i st = some t ∧ stepD E callF ops.toList anc k t = some s2 := by
  obtain ⟨a1, a2, a3⟩ := Oper.apart_spec hap
  have hx' : ops.toList[k]? = some x := by simpa using hx
  have hy' : ops.toList[i]? = some y := by simpa using hy
  simp only [stepD, hx', hy'] at A B ⊢
  split at A
  rotate_left
  · cases A
  rename_i rx hp1 hA
  injection A with A; subst A
  split at B
  rotate_left
  · cases B
  rename_i ry hp2 hB
  injection B with B; subst B
  simp only at hB ⊢
  have c1 : evD E callF ops.toList (confSlots ops.toList anc i) y (putAV st.tm x.dst rx) hp1 = evD E callF ops.toList (confSlots ops.toList anc i) y st.tm hp1 :=
    evD_congr (fun t ht => putAV_get (fun e => a1 t e ht)) (fun d hd => putAV_get (hcy d hd).1)
  rw [c1] at hB
  obtain ⟨hp1', h1, h2⟩ := heap_comm hk hA hB
  have c2 : evD E callF ops.toList (confSlots ops.toList anc k) x (putAV st.tm y.dst ry) hp1' = evD E callF ops.toList (confSlots ops.toList anc k) x st.tm hp1' :=
    evD_congr (fun t ht => putAV_get (fun e => a3 t e ht)) (fun d hd => putAV_get (hcx d hd).2)
  refine ⟨⟨putAV st.tm y.dst ry, hp1'⟩, by rw [h1], ?_⟩
  simp only [c2, h2]
  rw [putAV_comm (fun d hd => a2 d hd)]

theorem bubble {callF : CallF} {all : List Oper} {anc : List (List Nat)} {i : Nat} {R2 : List Nat} : ∀ {R1 : List Nat} {st st' : St},
    (∀ k ∈ R1, ∀ st s1 s2, stepD E callF all anc k st = some s1 → stepD E callF all anc i s1 = some s2 → ∃ t, stepD E callF all anc i st = some t ∧ stepD E callF all anc k t = some s2) →
    evListD E callF all anc (R1 ++ i :: R2) st = some st' → ∃ st1, stepD E callF all anc i st = some st1 ∧ evListD E callF all anc (R1 ++ R2) st1 = some st'
  | [], st, st', _, h => by
    simp only [List.nil_append, evListD] at h ⊢
    split at h
    · rename_i s1 hs; exact ⟨s1, hs, h⟩
    · cases h
  | k :: R1, st, st', hc, h => by
    simp only [List.cons_append, evListD] at h ⊢
    split at h
    · rename_i s1 hs
      obtain ⟨s2, h1, h2⟩ := bubble (fun k hk => hc k (List.mem_cons_of_mem _ hk)) h
      obtain ⟨t, h3, h4⟩ := hc k List.mem_cons_self _ _ _ hs h1
      exact ⟨t, h3, by rw [h4]; exact h2⟩
    · cases h

/-! Variables made ahead. -/
def Ghost.wait (G : Ghost) (b : Nat) (z : AV) (sz : Nat) : Ghost := ⟨G.row, G.sz, fun b' => if b' = b then some (z, sz) else G.pend b'⟩
def Ghost.mat (G : Ghost) (b c sz : Nat) : Ghost := ⟨(G.put b 1 (some c, 1) sz).row, (G.put b 1 (some c, 1) sz).sz, fun b' => if b' = b then none else G.pend b'⟩

theorem HRel.wait {base : Nat} {Z : Zone} {G : Ghost} {hp : Heap} {w : World} (H : HRel base Z G hp w) {z : AV} {sz : Nat} (hf : z.fits sz = true) :
    HRel base Z (G.wait hp.length z sz) (hp ++ [.row [z] sz 0 0]) w ∧ G.le (G.wait hp.length z sz) := by
  have hpn : ∀ z', G.pend hp.length = some z' → False := by
    intro z' h
    have := lt_of_get (H.pend _ z'.1 z'.2 h).1
    omega
  have hle : G.le (G.wait hp.length z sz) := ⟨fun _ _ _ h => h, fun _ _ _ _ => rfl, fun b z' h => by
    simp only [Ghost.wait]; split
    · rename_i e; subst e; exact (hpn _ h).elim
    · exact h⟩
  have hnone : ∀ g, G.row hp.length g = none := by
    intro g
    cases h : G.row hp.length g with
    | none => rfl
    | some r => exact absurd (H.dom _ _ _ h) (Nat.lt_irrefl _)
  refine ⟨⟨H.lo, H.zone, fun b g r h => ?_, fun b es' sz' wg' com' he => ?_, fun b s pos he g oc cap' hg => ?_, H.excl, fun b z' sz' h => ?_, fun b es' sz' wg' com' he => ?_⟩, hle⟩
  · simp only [List.length_append, List.length_singleton]
    have := H.dom b g r h; omega
  · rcases get_append he with ⟨hl, he2⟩ | ⟨rfl, he2⟩
    · obtain ⟨hf', hr'⟩ := H.row b es' sz' wg' com' he2
      refine ⟨hf', fun g oc cap' hg => ?_⟩
      obtain ⟨h1, h2, h3, h4, h5⟩ := hr' g oc cap' hg
      refine ⟨h1, h2, h3, h4, fun c hoc => ?_⟩
      obtain ⟨h6, h7, cs', t', h8, h9, h10⟩ := h5 c hoc
      exact ⟨h6, h7, cs', t', h8, h9, fun hw i o hi ho => (h10 hw i o hi ho).mono (fun _ _ h => h) hle (fun _ _ _ => rfl)⟩
    · injection he2 with e1 e2 e3 e4
      subst e1; subst e2
      refine ⟨fun i hi => ?_, fun g oc cap' hg => ?_⟩
      · have : i = 0 := by simp at hi; omega
        subst this; simpa using hf
      · have := hnone g; simp only [Ghost.wait] at hg; rw [this] at hg; cases hg
  · rcases get_append he with ⟨hl, he2⟩ | ⟨_, he2⟩
    · exact H.sit b s pos he2 g oc cap' hg
    · cases he2
  · simp only [Ghost.wait] at h
    split at h
    · rename_i e; subst e
      injection h with h; injection h with e1 e2; subst e1; subst e2
      exact ⟨by simp, hnone⟩
    · obtain ⟨k1, k2⟩ := H.pend b z' sz' h
      exact ⟨by rw [List.getElem?_append_left (lt_of_get k1)]; exact k1, k2⟩
  · rcases get_append he with ⟨hl, he2⟩ | ⟨rfl, he2⟩
    · exact H.wgle _ _ _ _ _ he2
    · injection he2 with e1 e2 e3 e4
      subst e1; subst e3; simp

theorem HRel.mat {base : Nat} {Z : Zone} {G : Ghost} {hp : Heap} {w : World} (H : HRel base Z G hp w) {b sz : Nat} {z : AV} {v : Value} (hb : G.pend b = some (z, sz)) (hv : ∀ Z w, PRel Z w z v) (hf : z.fits sz = true) (hpos : 0 < sz) (t : TypeId) :
    HRel base Z (G.mat b w.heap.size sz) hp (w.alloc (.cells v.cells t)) ∧ (∀ G0 : Ghost, G0.le G → G0.pend b = none → G0.le (G.mat b w.heap.size sz)) ∧
      (∀ (a : AV) (x : Value), Rel Z G w a x → Rel Z (G.mat b w.heap.size sz) (w.alloc (.cells v.cells t)) a x) ∧ Rel Z (G.mat b w.heap.size sz) (w.alloc (.cells v.cells t)) (.mp b 1 0 0) (.pointer (some ⟨w.heap.size, 0, none⟩)) := by
  obtain ⟨hbb, hnone⟩ := H.pend b z sz hb
  obtain ⟨c1, c2, _⟩ := (Rel.pure (hv Z w) : Rel Z G w z v).cellsOf hf
  have H1 := H.alloc (.cells v.cells t)
  have hrow : ∀ b' g r, G.row b' g = some r → (G.mat b w.heap.size sz).row b' g = some r ∧ (G.mat b w.heap.size sz).sz b' = G.sz b' := by
    intro b' g r h
    have hne : b' ≠ b := by intro e; subst e; rw [hnone] at h; cases h
    simp only [Ghost.mat, Ghost.put]
    rw [if_neg (fun e => hne e.1), if_neg hne]
    exact ⟨h, rfl⟩
  have hrel : ∀ (a : AV) (x : Value), Rel Z G w a x → Rel Z (G.mat b w.heap.size sz) (w.alloc (.cells v.cells t)) a x := by
    intro a x h
    have hk : ∀ c j, Z c j → (w.alloc (.cells v.cells t)).cell? ⟨c, j, none⟩ = w.cell? ⟨c, j, none⟩ := fun c j hz => World.cell?_alloc_lt _ _ _ (H.zone c j hz)
    induction h with
    | pure h => exact .pure (h.mono (fun _ _ h => h) hk)
    | agg cs vs hl _ ih => exact .agg cs vs hl ih
    | tup cs vs hl _ ih => exact .tup cs vs hl ih
    | fn f cs vs hl _ ih => exact .fn f cs vs hl ih
    | iface t a v _ ih => exact .iface t a v ih
    | ms b g off len oc cap a h0 h1 h2 ha hn => exact .ms b g off len oc cap a (hrow _ _ _ h0).1 h1 h2 (by rw [(hrow _ _ _ h0).2]; exact ha) hn
    | mp b g i o c cap h0 hi => rw [← (hrow _ _ _ h0).2]; exact .mp b g i o c cap (hrow _ _ _ h0).1 hi
    | it b c cap h0 => exact .it b c cap (hrow _ _ _ h0).1
  have hself : (G.mat b w.heap.size sz).row b 1 = some (some w.heap.size, 1) := by simp [Ghost.mat, Ghost.put]
  refine ⟨⟨H1.lo, H1.zone, fun b' g r h => ?_, fun b' es' sz' wg' com' he => ?_, fun b' s pos he g oc cap' hg => ?_, fun b1 b2 g g' c cap1 cap2 h1 h2 => ?_, fun b' z' sz' h => ?_, H1.wgle⟩, fun G0 h0 hp0 => ?_, hrel, ?_⟩
  · rcases Ghost.put_row (show (G.put b 1 (some w.heap.size, 1) sz).row b' g = some r from h) with ⟨rfl, _, _⟩ | h
    · exact lt_of_get hbb
    · exact H.dom _ _ _ h
  · obtain ⟨hf', hr'⟩ := H.row b' es' sz' wg' com' he
    refine ⟨hf', fun g oc cap' hg => ?_⟩
    rcases Ghost.put_row (show (G.put b 1 (some w.heap.size, 1) sz).row b' g = some (oc, cap') from hg) with ⟨rfl, rfl, hrr⟩ | hg
    · injection hrr with e1 e2
      subst e1; subst e2
      rw [hbb] at he; injection he with he; injection he with e1 e2 e3 e4
      subst e1; subst e2; subst e3; subst e4
      refine ⟨by simp [Ghost.mat, Ghost.put], by simp, Nat.le_refl _, fun h => (nomatch h), fun c hoc => ?_⟩
      injection hoc with hoc
      subst hoc
      refine ⟨H.lo, fun j hz => absurd (H.zone _ _ hz) (Nat.lt_irrefl _), v.cells, t, by rw [alloc_heap, if_pos rfl], by omega, fun _ i o hi ho => ?_⟩
      have : i = 0 := by omega
      subst this
      simpa using hrel _ _ (c2 o ho)
    · obtain ⟨h1, h2, h3, h4, h5⟩ := hr' g oc cap' hg
      refine ⟨(hrow _ _ _ hg).2.trans h1, h2, h3, h4, fun c hoc => ?_⟩
      obtain ⟨h6, h7, cs', t', h8, h9, h10⟩ := h5 c hoc
      subst hoc
      exact ⟨h6, h7, cs', t', by rw [alloc_heap, if_neg (Nat.ne_of_lt (H.old hg))]; exact h8, h9, fun hw i o hi ho => hrel _ _ (h10 hw i o hi ho)⟩
  · rcases Ghost.put_row (show (G.put b 1 (some w.heap.size, 1) sz).row b' g = some (oc, cap') from hg) with ⟨rfl, _, _⟩ | hg
    · rw [hbb] at he; cases he
    · exact H1.sit b' s pos he g oc cap' hg
  · rcases Ghost.put_row (show (G.put b 1 (some w.heap.size, 1) sz).row b1 g = some (some c, cap1) from h1) with ⟨e0, _, e1⟩ | k1 <;> rcases Ghost.put_row (show (G.put b 1 (some w.heap.size, 1) sz).row b2 g' = some (some c, cap2) from h2) with ⟨e0', _, e2⟩ | k2
    · rw [e0, e0']
    · injection e1 with e1 _; injection e1 with e1; subst e1; exact absurd (H.old k2) (Nat.lt_irrefl _)
    · injection e2 with e2 _; injection e2 with e2; subst e2; exact absurd (H.old k1) (Nat.lt_irrefl _)
    · exact H.excl _ _ _ _ _ _ _ k1 k2
  · simp only [Ghost.mat] at h
    split at h
    · cases h
    · rename_i hne
      obtain ⟨k1, k2⟩ := H.pend b' z' sz' h
      refine ⟨k1, fun g => ?_⟩
      simp only [Ghost.mat, Ghost.put]
      rw [if_neg (fun e => hne e.1)]
      exact k2 g
  · refine ⟨fun b' g r h => (hrow _ _ _ (h0.row b' g r h)).1, fun b' g r h => ((hrow _ _ _ (h0.row b' g r h)).2).trans (h0.sz b' g r h), fun b' z' h => ?_⟩
    simp only [Ghost.mat]
    split
    · rename_i e; subst e; rw [hp0] at h; cases h
    · exact h0.pend b' z' h
  · have := Rel.mp (Z := Z) (w := w.alloc (.cells v.cells t)) b 1 0 0 w.heap.size 1 hself (by omega)
    simpa using this
end Go.EV
