/-
  The tied card of LevelMeet holds: at all its arguments the law's function hands back true and leaves its arguments as they were. No condition beyond the card's own.
-/
import Derived.Test.YtkdjkbgcebodgaaDoorEvJg
namespace Go.Proofs.YtkdjkbgcebodgaaDoor
theorem levelMeet_card_holds : Rows.LevelMeetCardSaid := Go.EV.Lv.levelMeet_card
end Go.Proofs.YtkdjkbgcebodgaaDoor
