/-
  The tied card of LevelValid holds: at all its arguments the law's function hands back true and leaves its arguments as they were. No condition beyond the card's own.
-/
import Derived.Test.YtkdjkbgcebodgaaDoorEvVz
namespace Go.Proofs.YtkdjkbgcebodgaaDoor
theorem levelValid_card_holds : Rows.LevelValidCardSaid := Go.EV.Lv.levelValid_card
end Go.Proofs.YtkdjkbgcebodgaaDoor
