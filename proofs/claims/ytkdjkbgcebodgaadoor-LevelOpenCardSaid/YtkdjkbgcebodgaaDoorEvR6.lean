/-
  The call of LevelSub.
-/
import Derived.Test.YtkdjkbgcebodgaaDoorEvR5
set_option linter.unusedSimpArgs false
set_option linter.unusedVariables false
namespace Go.EV.Lv
open Go Go.EV Go.Proofs Go.RowKit
set_option maxRecDepth 100000
theorem envOk {w : World} (h : laidMetH Tryd.prog Go.Proofs.YtkdjkbgcebodgaaDoor.Rows.levelSubRow.laid w) : EnvOk E Tryd.prog w where
  ti := fun t ti h => tiOf_ok h
  fn := fun f d h => by
    have h' : Tryd.prog.funcs[f]? = some d := h
    refine ⟨h', ?_⟩
    have hm : d ∈ Tryd.prog.funcs.toList := by
      have : Tryd.prog.funcs.toList[f]? = some d := by simpa using h'
      exact List.mem_of_getElem? this
    have := List.all_eq_true.1 names d hm
    simpa using this
  gl := fun g v hg => by
    have hg' : (if g = 0 then some (AV.sl wordsL) else none) = some v := hg
    split at hg'
    · rename_i h0
      injection hg' with hv
      subst h0; subst hv
      obtain ⟨V, h1, h2⟩ := words_of_laid h
      refine ⟨1, fun _ => V, by omega, rfl, fun o ho => ?_⟩
      obtain rfl : o = 0 := by omega
      exact ⟨h1, h2⟩
    · cases hg'
  lib := fun f args r h => by cases h
  mix := Checked.mixed Tryd.checked
theorem sub_calls {W : World} (h : laidMetH Tryd.prog Go.Proofs.YtkdjkbgcebodgaaDoor.Rows.levelSubRow.laid W) {a b c : Ty} {va vb vc : Value} (ha : a.ok) (hb : b.ok) (hc : c.ok)
    (ra : PRel (All W) W (encT a) va) (rb : PRel (All W) W (encT b) vb) (rc : PRel (All W) W (encT c) vc) :
    Calls Tryd.prog 3 #[va, vb, vc] W fun e W' => e = .returned (.bool true) ∧ Below W.heap.size W W' := by
  have hp := (pureF_ok (callW_ok (envOk h)) (p3 a b c ha hb hc)).2
  refine (hp (All W) W #[va, vb, vc] (.refl _ _) (fun c j h => h) (fun c j h => h) ⟨rfl, fun i hi => ?_⟩).mono ?_
  · match i, hi with
    | 0, _ => exact ra
    | 1, _ => exact rb
    | 2, _ => exact rc
  · rintro e W' ⟨v, Z', rfl, hb, _, _, _, hr⟩
    cases hr
    exact ⟨rfl, hb⟩
end Go.EV.Lv
