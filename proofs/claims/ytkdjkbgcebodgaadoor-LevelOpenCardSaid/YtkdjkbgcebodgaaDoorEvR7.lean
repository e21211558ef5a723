/-
  A start that fits: the listed variables as their initialisers lay them.
-/
import Derived.Test.YtkdjkbgcebodgaaDoorEvR6
import Derived.Test.YtkdjkbgcebodgaaDoorTie
import Derived.LaidLaws
import Derived.Handed
set_option linter.unusedSimpArgs false
set_option linter.unusedVariables false
namespace Go.EV.Lv
open Go Go.EV Go.Proofs Go.Proofs.YtkdjkbgcebodgaaDoor
set_option maxRecDepth 100000
def valsOf : DataW Unit → Array Value
  | .agg ds => (ds.map one).toArray
  | .slice ds _ => (ds.map one).toArray
  | _ => #[]
where
  one : DataW Unit → Value
    | .lit (.int k n) => .int k n
    | .lit (.string l) => .string ⟨l.toArray⟩
    | _ => .nilIface
def textOf : DataW Unit → Array Value
  | .iface _ (.ptr (.agg ds)) => (ds.map valsOf.one).toArray
  | _ => #[]
noncomputable def low : Nat := (World.holding Tryd.prog default ⟨#[], #[], []⟩).heap.size
def putG (cs : Array Value) : Obj → Obj
  | .cells _ t frozen => .cells cs t frozen
  | o => o
noncomputable def laidWorld (os : Os) : World :=
  let w0 := World.holding Tryd.prog os ⟨#[.cells (valsOf Rows.laid_sealring_level_words) 9, .cells (textOf Rows.laid_strconv_ErrSyntax) 123, .cells (textOf Rows.laid_strconv_ErrRange) 123], #[], []⟩
  { w0 with heap := (((((w0.heap.modify 0 (putG #[.slice (some ⟨low, 0, none⟩) 7 7])).modify 1 (putG (valsOf Rows.laid_internal_strconv_uint64pow10))).modify 3 (putG #[.iface 121 (.pointer (some ⟨low + 1, 0, none⟩))])).modify 4 (putG #[.iface 121 (.pointer (some ⟨low + 2, 0, none⟩))])).modify 5 (putG (valsOf Rows.laid_math_bits_deBruijn32tab))).modify 6 (putG (valsOf Rows.laid_math_bits_deBruijn64tab)) }
theorem laid_met (os : Os) (args : Array Value) : laidMetH Tryd.prog Rows.levelSubRow.laid ((laidWorld os).forCall (fun _ _ => 0) ⟨#[], args, []⟩).memory := by
  have h : laidMet Tryd.prog Rows.levelSubRow.laid ((laidWorld os).forCall (fun _ _ => 0) ⟨#[], args, []⟩).memory := laidMet_of_run' 8 (by kernel_rfl) (by kernel_rfl)
  exact h
end Go.EV.Lv
