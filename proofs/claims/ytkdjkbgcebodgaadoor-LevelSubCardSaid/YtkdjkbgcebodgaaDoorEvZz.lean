/-
  The tied card of LevelSub holds: at every three types the law's function hands back true and leaves its arguments as they were. No condition beyond the card's own.
-/
import Derived.Test.YtkdjkbgcebodgaaDoorEvR9
namespace Go.Proofs.YtkdjkbgcebodgaaDoor
theorem levelSub_card_holds : Rows.LevelSubCardSaid := Go.EV.Lv.levelSub_card
end Go.Proofs.YtkdjkbgcebodgaaDoor
