/-
  The start is shaped.
-/
import Derived.Test.YtkdjkbgcebodgaaDoorEvR7
import Derived.Shaped
set_option linter.unusedSimpArgs false
set_option linter.unusedVariables false
namespace Go.EV
def varB (P : Program) (w : World) (g : Nat) : Bool :=
  match ((begin P (fun _ _ => 0) default).world.heap[g]?).bind Obj.row? with
  | none => true
  | some (zero, t) => match w.heap[g]? with
    | some (.cells cs t' frozen) => decide (t' = t) && decide (frozen = (0, 0)) && cs.size == zero.size && (!P.buildable t || Row.okB P t cs)
    | _ => false
theorem shaped_but {P : Program} {w : World} {k0 : Nat} (hv : (List.range P.globals.size).all (fun g => g == k0 || varB P w g) = true)
    (hr : (w.heap.toList.drop P.globals.size).take ((begin P (fun _ _ => 0) default).world.heap.size - P.globals.size) = (begin P (fun _ _ => 0) default).world.heap.toList.drop P.globals.size)
    {z : Array Value} {t0 : TypeId} (h0 : ((begin P (fun _ _ => 0) default).world.heap[k0]?).bind Obj.row? = some (z, t0)) {cs0 : Array Value} (hw0 : w.heap[k0]? = some (.cells cs0 t0)) (hs0 : cs0.size = z.size) (hok : Row.ok P w .any 0 t0 cs0) : w.Shaped P := by
  refine ⟨fun g zero t hg hz => ?_, fun k h1 h2 => ?_⟩
  case refine_2 =>
    have := congrArg (·[k - P.globals.size]?) hr
    simp only [List.getElem?_take, List.getElem?_drop, Array.getElem?_toList] at this
    rw [if_pos (by omega), Nat.add_sub_cancel' h1] at this
    exact this
  have := List.all_eq_true.1 hv g (List.mem_range.2 hg)
  by_cases hk : g = k0
  · subst hk
    rw [h0] at hz
    injection hz with hz; injection hz with e1 e2
    subst e1; subst e2
    exact ⟨cs0, hw0, hs0, fun _ => hok⟩
  · have hk' : (g == k0) = false := by simpa using hk
    rw [hk', Bool.false_or] at this
    unfold varB at this
    rw [hz] at this
    simp only at this
    split at this
    · rename_i cs t' fr hw
      simp only [Bool.and_eq_true, decide_eq_true_eq, beq_iff_eq, Bool.or_eq_true, Bool.not_eq_true'] at this
      obtain ⟨⟨⟨rfl, rfl⟩, hs⟩, hb⟩ := this
      refine ⟨cs, hw, hs, fun hbuild => ?_⟩
      rcases hb with hb | hb
      · rw [hbuild] at hb; cases hb
      · exact Row.ok_of_okB hb
    · cases this
end Go.EV
namespace Go.EV.Lv
open Go Go.EV Go.Proofs Go.Proofs.YtkdjkbgcebodgaaDoor
set_option maxRecDepth 100000
theorem laid_shaped (os : Os) (args : Array Value) : ((laidWorld os).forCall (fun _ _ => 0) ⟨#[], args, []⟩).Shaped Tryd.prog := by
  refine shaped_but (k0 := 0) (by kernel_rfl) (by kernel_rfl) (z := #[.slice none 0 0]) (t0 := 54) (by kernel_rfl) (cs0 := #[.slice (some ⟨low, 0, none⟩) 7 7]) (by kernel_rfl) rfl ?_
  refine ⟨[54], by kernel_rfl, ⟨1, rfl⟩, fun i v hv => ?_⟩
  have hi : i = 0 := by
    rcases i with _ | i
    · rfl
    · simp at hv
  subst hi
  obtain rfl : v = .slice (some ⟨low, 0, none⟩) 7 7 := by simpa using hv.symm
  refine ⟨54, rfl, ?_⟩
  unfold Cell.ok
  rw [Tryd.underlying54]
  exact ⟨Nat.le_refl _, by decide, trivial, rfl, 9, 7, by kernel_rfl, by kernel_rfl⟩
end Go.EV.Lv
