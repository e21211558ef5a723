/-
  The card of LevelSub.
-/
import Derived.Test.YtkdjkbgcebodgaaDoorEvR8
import Derived.Test.YtkdjkbgcebodgaaDoorCards
import Derived.SevenTiedAt
namespace Go.EV.Lv
open Go Go.EV Go.Proofs Go.Proofs.YtkdjkbgcebodgaaDoor
set_option maxRecDepth 100000
theorem levelSub_card : Rows.LevelSubCardSaid :=
  Claim7.holds_tied_plain_at .later [] [.data, .data, .data, .sentinel, .sentinel, .widerDeep] true (true, "3fe4795ac424d474b1ec7c377f5d720d95ad94c5c48fd264f854cc913967dab0") true
    levelSub_holds (fun _ h => by cases h) (by kernel_rfl) (fun _ h => by cases h) levelSub_row_tie rfl ⟨rfl, rfl⟩ (by kernel_rfl) rfl
    (fun f fn hf hfn => by
      obtain rfl : f = 3 := Option.some.inj ((show Tryd.prog.funcNamed "sealring/sealringlaw49.LevelSub" = some 3 by kernel_rfl).symm.trans hf) |>.symm
      obtain rfl : fn = Tryd.f3 := (Option.some.inj (Tryd.func3.symm.trans hfn)).symm
      exact ⟨by kernel_rfl, fun j t ht => by
        rw [Tryd.params3] at ht
        have h3 : t = 24 := by
          rcases j with _ | _ | _ | j <;> simp at ht <;> exact ht.symm
        subst h3
        exact (show Tryd.prog.wantsStandIn 24 = false by kernel_rfl)⟩)
    (by kernel_rfl)
end Go.EV.Lv
