/-
  The row of LevelSub.
-/
import Derived.Test.YtkdjkbgcebodgaaDoorEvR7b
import Derived.ProofKit
set_option linter.unusedSimpArgs false
set_option linter.unusedVariables false
namespace Go.EV.Lv
open Go Go.EV Go.Proofs Go.Proofs.YtkdjkbgcebodgaaDoor Go.ChangeShapes Go.WideShapes Go.RowKit
set_option maxRecDepth 100000
theorem own : ownKnob Tryd.prog.godebug = none := by kernel_rfl
theorem laidOut : laidOutB Tryd.prog = true := by kernel_rfl
theorem read24 : Tryd.prog.readableRec 24 = true := by kernel_rfl
theorem lt24 : 24 < Tryd.prog.types.size := of_decide_eq_true (by kernel_rfl)
theorem sub_lifted (os : Os) (started : os.Started) (H : Type) (enc : TypeId × Value → H) :
    ReturnsInHanded {} Tryd.checked os 3 .any (fun w args => (Rows.levelSubSpec.pre enc Tryd.prog Tryd.f3 [] false w args ∧ laidMetH Tryd.prog Rows.levelSubRow.laid w) ∧ sizedMet enc Tryd.prog Tryd.f3 (OpenSpec.ofChange Rows.levelSubSpec) false w args)
      (Rows.levelSubSpec.post enc Tryd.prog Tryd.f3 false true false false) := by
  refine returnsInHanded_of_change_and (C := Tryd.checked) (X := fun w _ => laidMetH Tryd.prog Rows.levelSubRow.laid w) (fun _ _ _ hh h => h.of_heap hh) own started (by kernel_rfl) Tryd.func3
    ⟨laidWorld os, fun _ _ => 0, ⟨#[], #[.agg #[.int .i64 0, .slice none 0 0], .agg #[.int .i64 0, .slice none 0 0], .agg #[.int .i64 0, .slice none 0 0]], []⟩, rfl, laid_shaped os _, rfl, (Input.okWide_of_okWideB (by kernel_rfl)).2, ⟨⟨ChangeSpec.pre_of_preB (fuel := 8) (by kernel_rfl), laid_met os _⟩, sizedMet_of_sizedB (fuel := 8) (by kernel_rfl)⟩, by
      simp only [Assume.holds]
      exact ⟨by simp, by simp, fun _ => Modest.zero, by simp, by simp⟩⟩ ?_
  intro W base args ds gs before hval0 hW _ _ hL _
  have hval : ∀ (j : Nat) t v, Tryd.f3.params[j]? = some t → args[j]? = some v → Value.okWide Tryd.prog W .any base t v := hval0
  have hW' := hW
  obtain ⟨p, q, hA0, hV, rfl, hfz, hnd⟩ := hW
  have hA : DataW.TrodAll enc Tryd.prog W 0 (fun _ => true) true Tryd.f3.params.toList args.toList ds p := hA0
  rw [Tryd.params3] at hA hval
  obtain ⟨va, vb, vc, da, db, dc, pa, pb, pc, rfl, rfl, rfl, ha, hb, hc⟩ := trodAll_three hA
  obtain ⟨rfl, rfl⟩ := trodVars_none hV
  have agg : ∀ (j : Nat) (v : Value), (#[24, 24, 24] : Array TypeId)[j]? = some 24 → (#[va, vb, vc] : Array Value)[j]? = some v → ∃ cs, v = .agg cs := by
    intro j v h1 h2
    have h := hval j 24 v h1 h2
    unfold Value.okWide at h
    rw [Tryd.underlying24] at h
    obtain ⟨cs, h, _⟩ := h
    exact ⟨cs, h⟩
  obtain ⟨a, oa, ra⟩ := openT (agg 0 va rfl rfl) ha
  obtain ⟨b, ob, rb⟩ := openT (agg 1 vb rfl rfl) hb
  obtain ⟨c, oc, rc⟩ := openT (agg 2 vc rfl rfl) hc
  clear hA0 hval0
  refine (sub_calls hL oa ob oc ra rb rc).mono fun e W' ⟨he, hw⟩ => ?_
  subst he
  have hlt : ∀ x ∈ pa ++ pb ++ pc, x.block < W.heap.size := fun x hx => hW'.lt x (by simpa using hx)
  have e1 : Rows.levelSubSpec.fn H ([da, db, dc] ++ []) = { results := [.lit (.bool true)], args := [da, db, dc] } := by simp [Rows.levelSubSpec]
  refine ⟨_, rfl, _, _, _, [], pa ++ (pb ++ pc), [], hW', ?_, ?_, ?_, hw.frame _, fun h => by cases h⟩
  · rw [e1]; exact trodAll_mk1 (shut_bool Tryd.underlying4 true)
  · rw [e1]
    exact trodAll_mk3 (Below.trod laidOut read24 lt24 ha hw fun x hx => hlt x (by simp [hx])) (Below.trod laidOut read24 lt24 hb hw fun x hx => hlt x (by simp [hx])) (Below.trod laidOut read24 lt24 hc hw fun x hx => hlt x (by simp [hx]))
  · rw [e1]; rfl
theorem levelSub_holds : Rows.LevelSubSaid :=
  OpenClaim.holds_of_wide 3 Tryd.f3 rfl rfl rfl rfl rfl rfl rfl ⟨rfl, rfl, rfl, rfl, rfl⟩ rfl rfl rfl rfl rfl (by kernel_rfl) Tryd.func3 (by kernel_rfl)
    (of_decide_eq_true (by kernel_rfl)) (by unfold Func.isWrapper; first | (rw [if_pos (by decide +kernel)]; kernel_rfl) | (rw [if_neg (by decide +kernel)]; exact ⟨rfl, rfl⟩))
    (fun os started H enc _ => sub_lifted os started H enc)
end Go.EV.Lv
