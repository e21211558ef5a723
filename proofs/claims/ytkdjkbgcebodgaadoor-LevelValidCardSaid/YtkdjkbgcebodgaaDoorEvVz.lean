/-
  The row and the card of LevelValid.
-/
import Derived.Test.YtkdjkbgcebodgaaDoorEvVy
import Derived.Test.YtkdjkbgcebodgaaDoorEvR7b
import Derived.Test.YtkdjkbgcebodgaaDoorEvRs
import Derived.ProofKit
import Derived.Test.YtkdjkbgcebodgaaDoorCards
import Derived.SevenTiedAt
set_option linter.unusedSimpArgs false
set_option linter.unusedVariables false
namespace Go.EV.Lv
open Go Go.EV Go.Proofs Go.Proofs.YtkdjkbgcebodgaaDoor Go.ChangeShapes Go.WideShapes Go.RowKit
set_option maxRecDepth 100000
theorem levelValid_calls {W : World} (h : laidMetH Tryd.prog Go.Proofs.YtkdjkbgcebodgaaDoor.Rows.levelValidRow.laid W) {a : Ty} {va : Value} (ha : a.ok) (ra : PRel (All W) W (encT a) va) :
    Calls Tryd.prog 8 #[va] W fun e W' => e = .returned (.bool true) ∧ Below W.heap.size W W' := by
  have hp := (pureF_ok (callW_ok (envOk h)) (p8 a ha)).2
  refine (hp (All W) W #[va] (.refl _ _) (fun c j h => h) (fun c j h => h) ⟨rfl, fun i hi => ?_⟩).mono ?_
  · match i, hi with
    | 0, _ => exact ra
  · rintro e W' ⟨v, Z', rfl, hb, _, _, _, hr⟩
    cases hr
    exact ⟨rfl, hb⟩
theorem levelValid_own : ownKnob Tryd.prog.godebug = none := by kernel_rfl
theorem levelValid_laidOut : laidOutB Tryd.prog = true := by kernel_rfl
theorem levelValid_read24 : Tryd.prog.readableRec 24 = true := by kernel_rfl
theorem levelValid_lt24 : 24 < Tryd.prog.types.size := of_decide_eq_true (by kernel_rfl)
theorem levelValid_lifted (os : Os) (started : os.Started) (H : Type) (enc : TypeId × Value → H) :
    ReturnsInHanded {} Tryd.checked os 8 .any (fun w args => (Rows.levelValidSpec.pre enc Tryd.prog Tryd.f8 [] false w args ∧ laidMetH Tryd.prog Rows.levelValidRow.laid w) ∧ sizedMet enc Tryd.prog Tryd.f8 (OpenSpec.ofChange Rows.levelValidSpec) false w args)
      (Rows.levelValidSpec.post enc Tryd.prog Tryd.f8 false true false false) := by
  refine returnsInHanded_of_change_and (C := Tryd.checked) (X := fun w _ => laidMetH Tryd.prog Rows.levelValidRow.laid w) (fun _ _ _ hh h => h.of_heap hh) levelValid_own started (by kernel_rfl) Tryd.func8
    ⟨laidWorld os, fun _ _ => 0, ⟨#[], #[.agg #[.int .i64 0, .slice none 0 0]], []⟩, rfl, laid_shaped os _, rfl, (Input.okWide_of_okWideB (by kernel_rfl)).2, ⟨⟨ChangeSpec.pre_of_preB (fuel := 8) (by kernel_rfl), laid_met os _⟩, sizedMet_of_sizedB (fuel := 8) (by kernel_rfl)⟩, by
      simp only [Assume.holds]
      exact ⟨by simp, by simp, fun _ => Modest.zero, by simp, by simp⟩⟩ ?_
  intro W base args ds gs before hval0 hW _ _ hL _
  have hval : ∀ (j : Nat) t v, Tryd.f8.params[j]? = some t → args[j]? = some v → Value.okWide Tryd.prog W .any base t v := hval0
  have hW' := hW
  obtain ⟨p, q, hA0, hV, rfl, hfz, hnd⟩ := hW
  have hA : DataW.TrodAll enc Tryd.prog W 0 (fun _ => true) true Tryd.f8.params.toList args.toList ds p := hA0
  rw [Tryd.params8] at hA hval
  obtain ⟨va, da, rfl, rfl, ha⟩ := trodAll_one hA
  obtain ⟨rfl, rfl⟩ := trodVars_none hV
  have agg : ∀ (j : Nat) (v : Value), (#[24] : Array TypeId)[j]? = some 24 → (#[va] : Array Value)[j]? = some v → ∃ cs, v = .agg cs := by
    intro j v h1 h2
    have h := hval j 24 v h1 h2
    unfold Value.okWide at h
    rw [Tryd.underlying24] at h
    obtain ⟨cs, h, _⟩ := h
    exact ⟨cs, h⟩
  obtain ⟨a, oa, ra⟩ := openT (agg 0 va rfl rfl) ha
  clear hA0 hval0
  refine (levelValid_calls hL oa ra).mono fun e W' ⟨he, hw⟩ => ?_
  subst he
  have hlt : ∀ x ∈ p, x.block < W.heap.size := fun x hx => hW'.lt x (by simpa using hx)
  have e1 : Rows.levelValidSpec.fn H ([da] ++ []) = { results := [.lit (.bool true)], args := [da] } := by simp [Rows.levelValidSpec]
  refine ⟨_, rfl, _, _, _, [], p, [], hW', ?_, ?_, ?_, hw.frame _, fun h => by cases h⟩
  · rw [e1]; exact trodAll_mk1 (shut_bool Tryd.underlying4 true)
  · rw [e1]
    exact trodAll_mk1 (Below.trod levelValid_laidOut levelValid_read24 levelValid_lt24 ha hw fun x hx => hlt x (by simp [hx]))
  · rw [e1]; rfl
theorem levelValid_holds : Rows.LevelValidSaid :=
  OpenClaim.holds_of_wide 8 Tryd.f8 rfl rfl rfl rfl rfl rfl rfl ⟨rfl, rfl, rfl, rfl, rfl⟩ rfl rfl rfl rfl rfl (by kernel_rfl) Tryd.func8 (by kernel_rfl)
    (of_decide_eq_true (by kernel_rfl)) (by unfold Func.isWrapper; first | (rw [if_pos (by decide +kernel)]; kernel_rfl) | (rw [if_neg (by decide +kernel)]; exact ⟨rfl, rfl⟩))
    (fun os started H enc _ => levelValid_lifted os started H enc)
theorem levelValid_card : Rows.LevelValidCardSaid :=
  Claim7.holds_tied_plain_at .later [] [.data, .data, .data, .sentinel, .sentinel, .widerDeep] true (true, "3fe4795ac424d474b1ec7c377f5d720d95ad94c5c48fd264f854cc913967dab0") true
    levelValid_holds (fun _ h => by cases h) (by kernel_rfl) (fun _ h => by cases h) levelValid_row_tie rfl ⟨rfl, rfl⟩ (by kernel_rfl) rfl
    (fun f fn hf hfn => by
      obtain rfl : f = 8 := Option.some.inj ((show Tryd.prog.funcNamed "sealring/sealringlaw49.LevelValid" = some 8 by kernel_rfl).symm.trans hf) |>.symm
      obtain rfl : fn = Tryd.f8 := (Option.some.inj (Tryd.func8.symm.trans hfn)).symm
      exact ⟨by kernel_rfl, fun j t ht => by
        rw [Tryd.params8] at ht
        have h3 : t = 24 := by
          rcases j with _ | j <;> simp at ht <;> simp [← ht]
        rcases h3 with rfl
        all_goals first | exact (show Tryd.prog.wantsStandIn 24 = false by kernel_rfl) | exact (show Tryd.prog.wantsStandIn 9 = false by kernel_rfl)⟩)
    (by kernel_rfl)
end Go.EV.Lv
