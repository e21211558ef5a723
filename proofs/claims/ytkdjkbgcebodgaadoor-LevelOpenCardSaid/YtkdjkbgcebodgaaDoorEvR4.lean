/-
  A laid variable: what a reading says, element by element.
-/
import Derived.Test.YtkdjkbgcebodgaaDoorEvR3
set_option linter.unusedSimpArgs false
set_option linter.unusedVariables false
namespace Go.EV
variable {H : Type} {enc : TypeId × Value → H} {P : Program} {w : World} {sp : Nat → Bool} {held : Bool}
theorem mapM_get {α β : Type} {f : α → Option β} : ∀ {l : List α} {r : List β}, l.mapM f = some r → r.length = l.length ∧ ∀ i (h : i < l.length) (h' : i < r.length), f l[i] = some r[i]
  | [], r, h => by simp at h; subst h; exact ⟨rfl, fun i h => by simp at h⟩
  | a :: l, r, h => by
    rw [List.mapM_cons] at h
    cases ha : f a with
    | none => rw [ha] at h; simp at h
    | some b =>
      rw [ha] at h
      cases hl : l.mapM f with
      | none => rw [hl] at h; simp at h
      | some bs =>
        rw [hl] at h
        simp at h
        subst h
        obtain ⟨h1, h2⟩ := mapM_get hl
        refine ⟨by simp [h1], fun i hi hi' => ?_⟩
        cases i with
        | zero => exact ha
        | succ i => exact h2 i (by simpa using hi) (by simpa using hi')
theorem trod_slice_d {t e : TypeId} {fuel : Nat} {cs : List Value} {ds rs : List (DataW H)} {ps : List MemPlace} (ht : P.underlying t = some (.slice e)) (h : DataW.trod enc P w 0 sp held fuel t cs = some (.slice ds rs, ps)) :
    ∃ ad cap fuel', cs = [.slice (some ad) ds.length cap] ∧ ds.length ≤ cap ∧ cap ≤ maxLen ∧
      ∀ i (hi : i < ds.length), ∃ ecs q, w.cells? 0 (ad.add (i * P.cellsOf e)) (P.cellsOf e) = some ecs ∧ DataW.trod enc P w 0 sp held fuel' e ecs = some (ds[i], q) := by
  cases fuel with
  | zero => simp [DataW.trod] at h
  | succ fuel =>
    unfold DataW.trod at h
    rw [ht] at h
    split at h <;> (rename_i he; try (simp at he; done))
    · cases h
    · rename_i e' a len cap
      obtain rfl : e = e' := by injection he with he; injection he
      simp only at h
      split at h
      · rename_i hc
        cases hm : (List.range len).mapM fun i => (w.cells? 0 (a.add (i * P.cellsOf e)) (P.cellsOf e)).bind (DataW.trod enc P w 0 sp held fuel e) with
        | none => rw [hm] at h; simp at h
        | some els =>
          rw [hm] at h
          obtain ⟨g1, g2⟩ := mapM_get hm
          have hl : els.length = len := by simpa using g1
          simp only [Option.bind_some, Option.map_eq_some_iff, Prod.mk.injEq, DataW.slice.injEq] at h
          obtain ⟨_, _, ⟨hds, _⟩, _⟩ := h
          subst hds
          refine ⟨a, cap, fuel, by simp [hl], by simp [hl]; exact hc.2.1, hc.2.2, fun i hi => ?_⟩
          have hi' : i < els.length := by simpa using hi
          have := g2 i (by simp; omega) hi'
          simp only [List.getElem_range] at this
          cases hcs : w.cells? 0 (a.add (i * P.cellsOf e)) (P.cellsOf e) with
          | none => rw [hcs] at this; simp at this
          | some ecs =>
            rw [hcs] at this
            exact ⟨ecs, els[i].2, rfl, by simpa using this⟩
      · cases h
    · cases h
theorem trod_lit_str {t : TypeId} {fuel : Nat} {cs : List Value} {l : List UInt8} {ps : List MemPlace} (ht : P.underlying t = some .string) (h : DataW.trod enc P w 0 sp held fuel t cs = some (.lit (.string l), ps)) : cs = [.string ⟨l.toArray⟩] := by
  cases fuel with
  | zero => simp [DataW.trod] at h
  | succ fuel =>
    unfold DataW.trod at h
    rw [ht] at h
    split at h <;> (rename_i he; try (simp at he; done))
    · rename_i s
      split at h
      · simp at h
        rw [← h.1]
      · cases h
    · cases h
end Go.EV
