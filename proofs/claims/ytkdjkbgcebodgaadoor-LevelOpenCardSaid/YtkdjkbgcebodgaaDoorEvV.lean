/-
  What is handed to a function without own memory, and calls.
-/
import Derived.Test.YtkdjkbgcebodgaaDoorEvU
set_option linter.unusedSimpArgs false
set_option linter.unusedVariables false
namespace Go.EV
open Go.RowKit
variable {E : Env} {P : Program}

theorem mapO_some {α β : Type} {f : α → Option β} : ∀ {l : List α} {r : List β}, mapO f l = some r → r.length = l.length ∧ ∀ (i : Nat) (a : α), l[i]? = some a → ∃ b, r[i]? = some b ∧ f a = some b
  | [], r, h => by simp only [mapO, Option.some.injEq] at h; subst h; exact ⟨rfl, fun i a h => by simp at h⟩
  | a :: as, r, h => by
    simp only [mapO] at h
    cases hf : f a with
    | none => rw [hf] at h; cases h
    | some b =>
      cases hm : mapO f as with
      | none => rw [hf, hm] at h; cases h
      | some bs =>
        rw [hf, hm] at h; injection h with h; subst h
        obtain ⟨h1, h2⟩ := mapO_some hm
        refine ⟨by simp [h1], fun i x hx => ?_⟩
        cases i with
        | zero => simp at hx; subst hx; exact ⟨b, rfl, hf⟩
        | succ i => simpa using h2 i x (by simpa using hx)

theorem resolve_one {hp : Heap} : ∀ {d : Nat} {v v' : AV}, resolve hp d v = some v' → v.one = true → v'.one = true := by
  intro d v v' h ho
  cases d with
  | zero =>
    simp only [resolve] at h
    split at h
    · injection h with h; subst h; exact ho
    · cases h
  | succ d =>
    cases v <;> simp only [resolve] at h <;> first
      | (simp [AV.one] at ho; done)
      | (injection h with h; subst h; exact ho)
      | (obtain ⟨_, _, rfl⟩ := Option.map_eq_some_iff.1 h; rfl)
      | (injection h with h; subst h; rfl)
      | skip
    all_goals (try (cases h; done))
    all_goals (split at h <;> first | (cases h; done) | skip)
    all_goals (split at h <;> first | (cases h; done) | skip)
    all_goals (obtain ⟨_, _, rfl⟩ := Option.map_eq_some_iff.1 h; rfl)

theorem many_ok {Y : Zone} {Z : Zone} {G : Ghost} {w : World} {f : AV → Option AV} (hf : ∀ v v' x, f v = some v' → Rel Z G w v x → PRel Y w v' x) (hY : ∀ c j, Z c j → Y c j) {l l' : List AV} (h : many f l = some l') :
    l'.length = l.length ∧ ∀ i, i < l.length → ∀ x, Rel Z G w (l.getD i .undef) x → PRel Y w (l'.getD i .undef) x := by
  unfold many at h
  split at h
  · rename_i hp
    injection h with h; subst h
    refine ⟨rfl, fun i hi x hx => ?_⟩
    simp only [List.all_eq_true] at hp
    have : (l.getD i .undef).isPure = true := by
      rw [show l.getD i .undef = l[i] by simp [List.getD_eq_getElem?_getD, hi]]; exact hp _ (List.getElem_mem hi)
    exact (hx.toPure this).mono hY (fun _ _ _ => rfl)
  · obtain ⟨h1, h2⟩ := mapO_some h
    refine ⟨h1, fun i hi x hx => ?_⟩
    obtain ⟨b, hb, hfb⟩ := h2 i l[i] (by simp [hi])
    have e1 : l.getD i .undef = l[i] := by simp [List.getD_eq_getElem?_getD, hi]
    have e2 : l'.getD i .undef = b := by simp [List.getD_eq_getElem?_getD, hb]
    rw [e2]; rw [e1] at hx
    exact hf _ _ _ hfb hx

theorem many_fits {hp : Heap} {d sz : Nat} {l l' : List AV} (h : many (resolve hp d) l = some l') {i : Nat} (hi : i < l.length) (hone : (l.getD i .undef).one = true) : (l'.getD i .undef).one = true := by
  unfold many at h
  split at h
  · injection h with h; subst h; exact hone
  · obtain ⟨h1, h2⟩ := mapO_some h
    obtain ⟨b, hb, hfb⟩ := h2 i l[i] (by simp [hi])
    have e1 : l.getD i .undef = l[i] := by simp [List.getD_eq_getElem?_getD, hi]
    have e2 : l'.getD i .undef = b := by simp [List.getD_eq_getElem?_getD, hb]
    rw [e2]; rw [e1] at hone
    exact resolve_one hfb hone

/-- An element, cell by cell. -/
theorem resolve_cells {Y : Zone} {Z : Zone} {G : Ghost} {w : World} {hp : Heap} {d sz : Nat} (ih : ∀ d', d' ≤ d → ∀ v v' x, resolve hp d' v = some v' → Rel Z G w v x → PRel Y w v' x) (hY : ∀ c j, Z c j → Y c j) {e e' : AV} (h : resolve hp d e = some e') (hf : e.fits sz = true) :
    e'.fits sz = true ∧ ∀ o, o < sz → ∀ x, Rel Z G w (e.cells.getD o .undef) x → PRel Y w (e'.cells.getD o .undef) x := by
  obtain ⟨hl, hone⟩ := fits_iff.1 hf
  have single : e.one = true → e'.fits sz = true ∧ ∀ o, o < sz → ∀ x, Rel Z G w (e.cells.getD o .undef) x → PRel Y w (e'.cells.getD o .undef) x := by
    intro ho
    have ho' := resolve_one h ho
    rw [AV.cells_one ho] at hl
    simp only [List.length_singleton] at hl
    subst hl
    refine ⟨by simp [AV.fits, AV.cells_one ho', ho'], fun o ho1 x hx => ?_⟩
    have : o = 0 := by omega
    subst this
    rw [AV.cells_one ho'] ; rw [AV.cells_one ho] at hx
    simpa using ih d (Nat.le_refl _) e e' x h (by simpa using hx)
  cases e with
  | agg cs =>
    cases d with
    | zero =>
      simp only [resolve] at h
      split at h
      · rename_i hp'
        injection h with h; subst h
        refine ⟨hf, fun o ho x hx => ?_⟩
        exact (hx.toPure (allPure_getD (cs := cs) (by simpa [AV.isPure] using hp') o)).mono hY (fun _ _ _ => rfl)
      · cases h
    | succ d =>
      simp only [resolve] at h
      obtain ⟨cs', hm, rfl⟩ := Option.map_eq_some_iff.1 h
      obtain ⟨h1, h2⟩ := many_ok (Y := Y) (Z := Z) (G := G) (w := w) (fun v v' x => ih d (Nat.le_succ _) v v' x) hY hm
      have hcl : cs.length = sz := hl
      refine ⟨fits_iff.2 ⟨by show cs'.length = sz; omega, fun x hx => ?_⟩, fun o ho x hx => h2 o (by omega) x hx⟩
      obtain ⟨i, hi, rfl⟩ := List.mem_iff_getElem.1 (show x ∈ cs' from hx)
      have hi2 : i < cs.length := by omega
      have := many_fits (sz := sz) hm hi2 (by
        rw [show cs.getD i .undef = cs[i] by simp [List.getD_eq_getElem?_getD, hi2]]
        exact hone _ (List.getElem_mem hi2))
      rwa [show cs'.getD i .undef = cs'[i] by simp [List.getD_eq_getElem?_getD, hi]] at this
  | undef => exact absurd (hone _ (List.mem_singleton.2 rfl)) (by simp [AV.one])
  | tup vs => exact absurd (hone _ (List.mem_singleton.2 rfl)) (by simp [AV.one])
  | _ => exact single rfl

theorem many_cells {Y : Zone} {Z : Zone} {G : Ghost} {w : World} {hp : Heap} {d sz : Nat} (ih : ∀ d', d' ≤ d → ∀ v v' x, resolve hp d' v = some v' → Rel Z G w v x → PRel Y w v' x) (hY : ∀ c j, Z c j → Y c j) {l l' : List AV} (h : many (resolve hp d) l = some l')
    (hf : ∀ i, i < l.length → (l.getD i .undef).fits sz = true) :
    l'.length = l.length ∧ (∀ i, i < l.length → (l'.getD i .undef).fits sz = true) ∧ ∀ i o, i < l.length → o < sz → ∀ x, Rel Z G w ((l.getD i .undef).cells.getD o .undef) x → PRel Y w ((l'.getD i .undef).cells.getD o .undef) x := by
  unfold many at h
  split at h
  · rename_i hp'
    injection h with h; subst h
    refine ⟨rfl, hf, fun i o hi ho x hx => ?_⟩
    simp only [List.all_eq_true] at hp'
    have hpure : (l.getD i .undef).isPure = true := by
      rw [show l.getD i .undef = l[i] by simp [List.getD_eq_getElem?_getD, hi]]; exact hp' _ (List.getElem_mem hi)
    have : ((l.getD i .undef).cells.getD o .undef).isPure = true := by
      generalize l.getD i .undef = e at hpure
      have single : e.cells = [e] → (e.cells.getD o .undef).isPure = true := by
        intro he; rw [he]; cases o with
        | zero => simpa using hpure
        | succ o => simp [AV.isPure]
      cases e with
      | agg cs => exact allPure_getD (cs := cs) (by simpa [AV.isPure] using hpure) o
      | _ => exact single rfl
    exact (hx.toPure this).mono hY (fun _ _ _ => rfl)
  · obtain ⟨h1, h2⟩ := mapO_some h
    have key : ∀ i, i < l.length → resolve hp d (l.getD i .undef) = some (l'.getD i .undef) := by
      intro i hi
      obtain ⟨b, hb, hfb⟩ := h2 i l[i] (by simp [hi])
      rw [show l.getD i .undef = l[i] by simp [List.getD_eq_getElem?_getD, hi], show l'.getD i .undef = b by simp [List.getD_eq_getElem?_getD, hb]]
      exact hfb
    exact ⟨h1, fun i hi => (resolve_cells ih hY (key i hi) (hf i hi)).1, fun i o hi ho x hx => (resolve_cells ih hY (key i hi) (hf i hi)).2 o ho x hx⟩

theorem resolve_ok {base : Nat} {Y Z : Zone} {G : Ghost} {hp : Heap} {w : World} (H : HRel base Z G hp w) (hY : ∀ c j, Z c j → Y c j) (hown : ∀ b g c cap, G.row b g = some (some c, cap) → ∀ j, Y c j) :
    ∀ (d : Nat) (v v' : AV) (x : Value), resolve hp d v = some v' → Rel Z G w v x → PRel Y w v' x := by
  intro d
  induction d using Nat.strongRecOn with
  | _ d ih =>
  intro v v' x h hx
  cases d with
  | zero =>
    simp only [resolve] at h
    split at h
    · rename_i hp'
      injection h with h; subst h
      exact (hx.toPure hp').mono hY (fun _ _ _ => rfl)
    · cases h
  | succ d =>
    have ihd : ∀ d', d' ≤ d → ∀ v v' x, resolve hp d' v = some v' → Rel Z G w v x → PRel Y w v' x := fun d' hd => ih d' (by omega)
    have scal : ∀ u : AV, u.isPure = true → v = u → v' = u → PRel Y w v' x := by
      intro u hu e1 e2; subst e1; subst e2
      exact (hx.toPure hu).mono hY (fun _ _ _ => rfl)
    cases v with
    | undef => simp only [resolve, Option.some.injEq] at h; exact scal _ rfl rfl h.symm
    | int k n => simp only [resolve, Option.some.injEq] at h; exact scal _ rfl rfl h.symm
    | bool b => simp only [resolve, Option.some.injEq] at h; exact scal _ rfl rfl h.symm
    | str s => simp only [resolve, Option.some.injEq] at h; exact scal _ rfl rfl h.symm
    | sl es => simp only [resolve, Option.some.injEq] at h; exact scal _ rfl rfl h.symm
    | ip es i o => simp only [resolve, Option.some.injEq] at h; exact scal _ rfl rfl h.symm
    | nilp => simp only [resolve, Option.some.injEq] at h; exact scal _ rfl rfl h.symm
    | nilf => simp only [resolve, Option.some.injEq] at h; exact scal _ rfl rfl h.symm
    | nili => simp only [resolve, Option.some.injEq] at h; exact scal _ rfl rfl h.symm
    | nils => simp only [resolve, Option.some.injEq] at h; subst h; cases hx.nils_inv; exact .sl0 _ _
    | z0 => simp only [resolve, Option.some.injEq] at h; subst h; obtain ⟨a, rfl⟩ := hx.z0_inv; exact .sl0 _ _
    | it b => simp [resolve] at h
    | agg cs =>
      simp only [resolve] at h
      obtain ⟨cs', hm, rfl⟩ := Option.map_eq_some_iff.1 h
      obtain ⟨vs, rfl, hl, hr⟩ := hx.agg_inv
      obtain ⟨h1, h2⟩ := many_ok (fun v v' x => ihd d (Nat.le_refl _) v v' x) hY hm
      exact .agg _ _ (by omega) fun i hi => h2 i (by omega) _ (hr i (by omega))
    | tup cs =>
      simp only [resolve] at h
      obtain ⟨cs', hm, rfl⟩ := Option.map_eq_some_iff.1 h
      obtain ⟨vs, rfl, hl, hr⟩ := hx.tup_inv
      obtain ⟨h1, h2⟩ := many_ok (fun v v' x => ihd d (Nat.le_refl _) v v' x) hY hm
      exact .tup _ _ (by omega) fun i hi => h2 i (by omega) _ (hr i (by omega))
    | fn f cs =>
      simp only [resolve] at h
      obtain ⟨cs', hm, rfl⟩ := Option.map_eq_some_iff.1 h
      obtain ⟨vs, rfl, hl, hr⟩ := hx.fn_inv
      obtain ⟨h1, h2⟩ := many_ok (fun v v' x => ihd d (Nat.le_refl _) v v' x) hY hm
      exact .fn _ _ _ (by omega) fun i hi => h2 i (by omega) _ (hr i (by omega))
    | iface t v =>
      simp only [resolve] at h
      obtain ⟨v1, hm, rfl⟩ := Option.map_eq_some_iff.1 h
      obtain ⟨y, rfl, hy⟩ := hx.iface_inv
      exact .iface _ _ _ (ihd d (Nat.le_refl _) _ _ _ hm hy)
    | ms b g off len =>
      simp only [resolve] at h
      split at h
      rotate_left
      · cases h
      rename_i es sz wg com hb
      split at h
      rotate_left
      · cases h
      rename_i hw
      obtain ⟨es', hm, rfl⟩ := Option.map_eq_some_iff.1 h
      obtain ⟨oc, cap, a, rfl, hg, hl1, hl2, hla, _⟩ := hx.ms_inv
      obtain ⟨hf, hrow⟩ := H.row b es sz wg com hb
      obtain ⟨hG, hge, _, _, _⟩ := hrow g _ cap hg
      have hlen : ((es.drop off).take len).length = len := by simp; omega
      have hall : ∀ i, i < len → ((es.drop off).take len).getD i .undef = es.getD (off + i) .undef := by
        intro i hi
        simp only [List.getD_eq_getElem?_getD, List.getElem?_take, List.getElem?_drop]
        rw [if_pos hi]
      obtain ⟨k1, k2, k3⟩ := many_cells (Y := Y) (Z := Z) (G := G) (w := w) ihd hY hm (sz := sz) (fun i hi => by rw [hall i (by omega)]; exact hf _ (by omega))
      by_cases h0 : len = 0
      · subst h0
        have : es' = [] := List.length_eq_zero_iff.1 (by rw [k1]; simp)
        subst this
        exact .sl0 _ _
      · obtain ⟨c, rfl, rfl⟩ := hla (by omega)
        have key := fun i (hi : i < len) => row_cells H hb hg hw (i := off + i) (by omega)
        obtain ⟨_, _, _, _, _, cs, t, hh, hcs, _⟩ := key 0 (by omega)
        have he' : es'.length = len := by omega
        rw [hG, ← he']
        refine .sl es' sz c (off * sz) (cap - off) (fun i o => cs.getD ((off + i) * sz + o) Go.undef) (by omega) (fun i hi => k2 i (by omega)) (fun i o hi ho => ?_) (fun i o hi ho => ?_)
        · obtain ⟨_, _, _, _, _, cs', t', hh', _, hcell, _⟩ := key i (by omega)
          rw [hh] at hh'; injection hh' with e; injection e with e1 e2; subst e1
          have := hcell o ho
          refine ⟨?_, hown b g c cap hg _⟩
          rwa [Nat.add_mul, Nat.add_assoc] at this ⊢
        · obtain ⟨_, _, _, _, _, cs', t', hh', _, _, hrel⟩ := key i (by omega)
          rw [hh] at hh'; injection hh' with e; injection e with e1 e2; subst e1
          exact k3 i o (by omega) ho _ (by rw [hall i (by omega)]; exact hrel o ho)
    | mp b g i o =>
      simp only [resolve] at h
      split at h
      rotate_left
      · cases h
      rename_i es sz wg com hb
      split at h
      rotate_left
      · cases h
      rename_i hw
      obtain ⟨es', hm, rfl⟩ := Option.map_eq_some_iff.1 h
      cases hx with
      | pure hx => cases hx
      | mp _ _ _ _ c cap hg hi =>
        obtain ⟨hf, hrow⟩ := H.row b es sz wg com hb
        obtain ⟨hG, hge, _, _, _⟩ := hrow g _ cap hg
        have hlen : (es.take g).length = g := by simp; omega
        have hall : ∀ i, i < g → (es.take g).getD i .undef = es.getD i .undef := by
          intro i hi
          simp only [List.getD_eq_getElem?_getD, List.getElem?_take]
          rw [if_pos hi]
        obtain ⟨k1, k2, k3⟩ := many_cells (Y := Y) (Z := Z) (G := G) (w := w) ihd hY hm (sz := sz) (fun i hi => by rw [hall i (by omega)]; exact hf _ (by omega))
        have key := fun i (hi : i < g) => row_cells H hb hg hw (i := i) hi
        obtain ⟨_, _, _, _, _, cs, t, hh, hcs, _⟩ := key i hi
        rw [hG]
        have := PRel.ip (Z := Y) (w := w) es' i o sz c 0 (fun i o => cs.getD (i * sz + o) Go.undef) (fun i hi => k2 i (by omega)) (fun i o hi ho => by
            obtain ⟨_, _, _, _, _, cs', t', hh', _, hcell, _⟩ := key i (by omega)
            rw [hh] at hh'; injection hh' with e; injection e with e1 e2; subst e1
            simp only [Nat.zero_add]
            exact ⟨hcell o ho, hown b g c cap hg _⟩) (fun i o hi ho => by
            obtain ⟨_, _, _, _, _, cs', t', hh', _, _, hrel⟩ := key i (by omega)
            rw [hh] at hh'; injection hh' with e; injection e with e1 e2; subst e1
            exact k3 i o (by omega) ho _ (by rw [hall i (by omega)]; exact hrel o ho))
        simpa using this

theorem resolve_pure {hp : Heap} {d : Nat} {Z : Zone} {w : World} : ∀ {v v' : AV} {x : Value}, resolve hp d v = some v' → v.isPure = true → PRel Z w v x → PRel Z w v' x := by
  induction d with
  | zero =>
    intro v v' x h hp' hx
    simp only [resolve] at h
    rw [if_pos hp'] at h
    injection h with h; subst h; exact hx
  | succ d ih =>
    intro v v' x h hp' hx
    have allp : ∀ {cs : List AV}, AV.isPure.allPure cs = true → cs.all AV.isPure = true := by
      intro cs
      induction cs with
      | nil => intro _; rfl
      | cons c cs ihc =>
        intro h
        simp only [AV.isPure.allPure, Bool.and_eq_true] at h
        simp [h.1, ihc h.2]
    cases v with
    | agg cs =>
      simp only [resolve] at h
      obtain ⟨cs', hm, rfl⟩ := Option.map_eq_some_iff.1 h
      rw [many, if_pos (allp (by simpa [AV.isPure] using hp'))] at hm
      injection hm with hm; subst hm; exact hx
    | tup cs =>
      simp only [resolve] at h
      obtain ⟨cs', hm, rfl⟩ := Option.map_eq_some_iff.1 h
      rw [many, if_pos (allp (by simpa [AV.isPure] using hp'))] at hm
      injection hm with hm; subst hm; exact hx
    | fn f cs =>
      simp only [resolve] at h
      obtain ⟨cs', hm, rfl⟩ := Option.map_eq_some_iff.1 h
      rw [many, if_pos (allp (by simpa [AV.isPure] using hp'))] at hm
      injection hm with hm; subst hm; exact hx
    | iface t v =>
      simp only [resolve] at h
      obtain ⟨v1, hm, rfl⟩ := Option.map_eq_some_iff.1 h
      cases hx with
      | iface _ _ y hy => exact .iface _ _ _ (ih hm (by simpa [AV.isPure] using hp') hy)
    | nils => simp only [resolve, Option.some.injEq] at h; subst h; cases hx; exact .sl0 _ _
    | z0 => simp only [resolve, Option.some.injEq] at h; subst h; cases hx; exact .sl0 _ _
    | ms => simp [AV.isPure] at hp'
    | mp => simp [AV.isPure] at hp'
    | it => simp [AV.isPure] at hp'
    | _ => simp only [resolve, Option.some.injEq] at h; subst h; exact hx
end Go.EV
