/-
  The tied card of LevelOpen holds: at all its arguments the law's function hands back true and leaves its arguments as they were. No condition beyond the card's own.
-/
import Derived.Test.YtkdjkbgcebodgaaDoorEvO2
namespace Go.Proofs.YtkdjkbgcebodgaaDoor
theorem levelOpen_card_holds : Rows.LevelOpenCardSaid := Go.EV.Lv.levelOpen_card
end Go.Proofs.YtkdjkbgcebodgaaDoor
