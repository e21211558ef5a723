/-
  An argument that is a string.
-/
import Derived.Test.YtkdjkbgcebodgaaDoorEvR4
set_option linter.unusedSimpArgs false
set_option linter.unusedVariables false
namespace Go.EV.Lv
open Go Go.EV Go.Proofs Go.RowKit
set_option maxRecDepth 100000
variable {H : Type} {enc : TypeId × Value → H} {w : World} {sp : Nat → Bool} {held : Bool}
theorem openS {v : Value} {d : DataW H} {ps : List MemPlace} (hv : ∃ s, v = .string s) (h : DataW.Trod enc Tryd.prog w 0 sp held 9 v d ps) :
    ∃ s : List UInt8, s.length ≤ big ∧ PRel (All w) w (.str s) v := by
  obtain ⟨b, rfl⟩ := hv
  obtain ⟨fuel, h⟩ := h
  obtain ⟨s, hs, hl⟩ := trod_str Tryd.underlying9 h
  have e : b = s := by
    have h1 : (Value.string b).cells.toList = [.string b] := rfl
    rw [h1] at hs
    simpa using hs
  subst e
  refine ⟨b.data.toList, by have hs : b.size ≤ big := hl; simpa using hs, ?_⟩
  have := PRel.str (Z := All w) (w := w) b.data.toList
  rw [str_eq] at this
  exact this
theorem okStr {r : Reach} {base : Nat} {v : Value} (h : Value.okWide Tryd.prog w r base 9 v) : ∃ s, v = .string s := by
  have hu := Tryd.underlying9
  unfold Value.okWide at h
  rw [hu] at h
  simp only at h
  unfold Cell.okWide at h
  rw [hu] at h
  have k : Cell.ok Tryd.prog w r base 9 v ∨ ∃ s, v = .string s := by
    cases v <;> first | exact .inr ⟨_, rfl⟩ | exact .inl h
  rcases k with k | k
  rotate_left
  · exact k
  unfold Cell.ok at k
  rw [hu] at k
  cases v <;> first | exact ⟨_, rfl⟩ | exact absurd k (by simp) | exact False.elim k
end Go.EV.Lv
