/-
  The tied card of LevelJoin holds: at all its arguments the law's function hands back true and leaves its arguments as they were. No condition beyond the card's own.
-/
import Derived.Test.YtkdjkbgcebodgaaDoorEvJf
namespace Go.Proofs.YtkdjkbgcebodgaaDoor
theorem levelJoin_card_holds : Rows.LevelJoinCardSaid := Go.EV.Lv.levelJoin_card
end Go.Proofs.YtkdjkbgcebodgaaDoor
