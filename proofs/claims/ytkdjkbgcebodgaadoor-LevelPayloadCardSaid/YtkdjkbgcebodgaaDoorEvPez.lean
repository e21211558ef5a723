/-
  The tied card of LevelPayload holds: at all its arguments the law's function hands back true and leaves its arguments as they were. No condition beyond the card's own.
-/
import Derived.Test.YtkdjkbgcebodgaaDoorEvPe
namespace Go.Proofs.YtkdjkbgcebodgaaDoor
theorem levelPayload_card_holds : Rows.LevelPayloadCardSaid := Go.EV.Lv.levelPayload_card
end Go.Proofs.YtkdjkbgcebodgaaDoor
