/-
  A type, read from a row's argument.
-/
import Derived.Test.YtkdjkbgcebodgaaDoorEvR1
set_option linter.unusedSimpArgs false
set_option linter.unusedVariables false
namespace Go.EV
variable {H : Type} {enc : TypeId × Value → H} {P : Program} {w : World} {sp : Nat → Bool} {held : Bool}

theorem choose_list {β : Type} {R : Nat → β → Prop} : ∀ n, (∀ i, i < n → ∃ y, R i y) → ∃ l : List β, l.length = n ∧ ∀ i (h : i < l.length), R i l[i]
  | 0, _ => ⟨[], rfl, fun i h => by simp at h⟩
  | n + 1, h => by
    obtain ⟨l, hl, hr⟩ := choose_list n fun i hi => h i (by omega)
    obtain ⟨y, hy⟩ := h n (by omega)
    refine ⟨l ++ [y], by simp [hl], fun i hi => ?_⟩
    rcases Nat.lt_or_ge i l.length with hlt | hge
    · rw [List.getElem_append_left hlt]; exact hr i hlt
    · have : i = n := by simp at hi; omega
      subst this
      rw [List.getElem_append_right hge]
      simpa [hl] using hy
abbrev All (w : World) : Zone := fun c _ => c < w.heap.size
theorem add_add (ad : Addr) (hs : ad.spot = none) (a b : Nat) : (ad.add a).add b = ⟨ad.block, ad.off + (a + b), none⟩ := by
  obtain ⟨c, o, s⟩ := ad
  simp only at hs
  subst hs
  rw [addr_add, addr_add, Nat.add_assoc]
theorem open_list {β : Type} (encE : β → AV) (ok : β → Prop) {t e : TypeId} {n : Nat} (ht : P.underlying t = some (.slice e)) (hn : P.cellsOf e = n) (hn0 : 0 < n) (hfit : ∀ b, (encE b).fits n = true)
    (hel : ∀ fuel ecs y, DataW.trod enc P w 0 sp held fuel e ecs = some y → ∃ b : β, ok b ∧ ∀ j, j < n → PRel (All w) w ((encE b).cells.getD j .undef) (ecs.getD j Go.undef))
    {fuel : Nat} {cs : List Value} {x : DataW H × List MemPlace} (h : DataW.trod enc P w 0 sp held fuel t cs = some x) :
    ∃ (v : Value) (l : List β), cs = [v] ∧ PRel (All w) w (.sl (l.map encE)) v ∧ l.length ≤ maxLen ∧ ∀ b ∈ l, ok b := by
  obtain ⟨a, len, cap, rfl, hh⟩ := trod_slice ht h
  rcases hh with ⟨rfl, rfl, rfl⟩ | ⟨ad, fuel', rfl, hle, hcap, hel'⟩
  · exact ⟨_, [], rfl, .sl0 _ _, Nat.zero_le _, fun b hb => by simp at hb⟩
  rw [hn] at hel'
  rcases Nat.eq_zero_or_pos len with rfl | hpos
  · exact ⟨_, [], rfl, .sl0 _ _, Nat.zero_le _, fun b hb => by simp at hb⟩
  have hspot : ad.spot = none := by
    obtain ⟨ecs, y, h1, _⟩ := hel' 0 hpos
    have h2 := (cells_get h1).2 0 hn0
    rw [Nat.zero_mul] at h2
    have h3 : (ad.add 0).add 0 = ad := rfl
    rw [h3] at h2
    unfold World.cell? at h2
    split at h2
    · split at h2
      · cases h2
      · rename_i hs; simpa using hs
    · cases h2
  have key : ∀ i, i < len → ∃ b : β, ok b ∧ ∀ o, o < n → ∃ V, w.cell? ⟨ad.block, ad.off + (i * n + o), none⟩ = some V ∧ PRel (All w) w ((encE b).cells.getD o .undef) V := by
    intro i hi
    obtain ⟨ecs, y, h1, h2⟩ := hel' i hi
    obtain ⟨b, hb, hr⟩ := hel _ _ _ h2
    refine ⟨b, hb, fun o ho => ⟨_, ?_, hr o ho⟩⟩
    have := (cells_get h1).2 o ho
    rwa [add_add ad hspot] at this
  obtain ⟨l, hl, hr⟩ := choose_list len key
  have hcell : ∀ i o, i < l.length → o < n → ∃ V, w.cell? ⟨ad.block, ad.off + (i * n + o), none⟩ = some V ∧ PRel (All w) w (((l.map encE).getD i .undef).cells.getD o .undef) V := by
    intro i o hi ho
    obtain ⟨V, h1, h2⟩ := (hr i hi).2 o ho
    refine ⟨V, h1, ?_⟩
    have : (l.map encE).getD i .undef = encE l[i] := by simp [List.getD_eq_getElem?_getD, hi]
    rw [this]; exact h2
  let V : Nat → Nat → Value := fun i o => (w.cell? ⟨ad.block, ad.off + (i * n + o), none⟩).getD Go.undef
  have hV : ∀ i o, i < l.length → o < n → w.cell? ⟨ad.block, ad.off + (i * n + o), none⟩ = some (V i o) := by
    intro i o hi ho
    obtain ⟨v, h1, _⟩ := hcell i o hi ho
    simp only [V, h1, Option.getD_some]
  have hml : (l.map encE).length = l.length := by simp
  have p := PRel.sl (Z := All w) (w := w) (l.map encE) n ad.block ad.off cap V (by rw [hml]; omega)
    (fun i hi => by
      have hi' : i < l.length := by rwa [hml] at hi
      have : (l.map encE).getD i .undef = encE l[i] := by simp [List.getD_eq_getElem?_getD, hi']
      rw [this]; exact hfit _)
    (fun i o hi ho => by
      have h1 := hV i o (by rwa [hml] at hi) ho
      exact ⟨h1, cell_lt h1⟩)
    (fun i o hi ho => by
      obtain ⟨v, h1, h2⟩ := hcell i o (by rwa [hml] at hi) ho
      have h3 := hV i o (by rwa [hml] at hi) ho
      rw [h1] at h3
      injection h3 with h3
      rw [← h3]; exact h2)
  refine ⟨_, l, rfl, ?_, by omega, fun b hb => ?_⟩
  · have hat : some ad = some (⟨ad.block, ad.off, none⟩ : Addr) := by
      obtain ⟨c, o, s⟩ := ad
      simp only at hspot
      rw [hspot]
    rw [hat, ← hl, ← hml]
    exact p
  · obtain ⟨i, hi, rfl⟩ := List.mem_iff_getElem.1 hb
    exact (hr i hi).1
end Go.EV
