/-
  The layer's examples, run by the kernel.
-/
import Derived.Test.YtkdjkbgcebodgaaDoorEvLv
namespace Go.EV.Lv
open Go Go.EV Go.Proofs
set_option maxRecDepth 100000
set_option maxHeartbeats 1000000
theorem awakeE : pureF (evFn E 100) 9 [] = some (.bool true) := by kernel_rfl
end Go.EV.Lv
