/-
  The layer's program as the evaluator sees it.
-/
import Derived.Test.YtkdjkbgcebodgaaDoorEvK
import Derived.Test.YtkdjkbgcebodgaaDoorEvLc
import Derived.Test.YtkdjkbgcebodgaaDoorTie
set_option linter.unusedSimpArgs false
set_option linter.unusedVariables false
namespace Go.EV.Lv
open Go Go.EV Go.Proofs
set_option maxRecDepth 100000
def modeL (f : FuncId) : Nat := if f = 48 ∨ f = 49 ∨ f = 68 then 1 else if f = 50 then 3 else if f = 42 ∨ f = 58 then 2 else 0
def annL : FuncId → Nat → Option LAnn
  | 7, 0 => some ⟨[5, 7, 46, 47], []⟩
  | 10, 0 => some ⟨[1, 3], []⟩
  | 13, 0 => some ⟨[1, 3], []⟩
  | 14, 0 => some ⟨[2, 3, 5], []⟩
  | 15, 0 => some ⟨[3, 4, 17, 18, 19], []⟩
  | 16, 0 => some ⟨[2, 3, 4, 8, 9, 10], []⟩
  | 21, 0 => some ⟨[1, 18, 19, 20], []⟩
  | 21, 2 => some ⟨[9, 29, 30, 31], [(9, 2)]⟩
  | 22, 0 => some ⟨[7, 9, 10], [(9, 2)]⟩
  | 23, 0 => some ⟨[1, 5, 30, 31, 32], [(5, 1)]⟩
  | 23, 2 => some ⟨[1, 5, 7, 8, 9, 30, 31, 32, 37, 38, 39], [(8, 1)]⟩
  | 23, 4 => some ⟨[1, 5, 7, 8, 9, 30, 31, 32, 52, 53, 54], [(9, 1)]⟩
  | 24, 0 => some ⟨[1, 5, 6], []⟩
  | 25, 1 => some ⟨[3, 32, 33, 34], []⟩
  | 26, 0 => some ⟨[2, 4, 5], [(2005, 4)]⟩
  | 28, 0 => some ⟨[3, 4], [(3, 2)]⟩
  | 33, 0 => some ⟨[0, 3], []⟩
  | 34, 0 => some ⟨[1, 3], []⟩
  | 34, 2 => some ⟨[1, 4], []⟩
  | 35, 0 => some ⟨[0, 1, 5], []⟩
  | 37, 0 => some ⟨[2, 3, 10, 11, 12], [(2003, 4)]⟩
  | 39, 0 => some ⟨[1, 2, 4, 6], []⟩
  | 42, 1 => some ⟨[0, 1, 5, 39, 40, 41], []⟩
  | 42, 3 => some ⟨[1, 8, 63, 64, 65], []⟩
  | 44, 0 => some ⟨[1, 3, 4], []⟩
  | 44, 2 => some ⟨[1, 3, 5], []⟩
  | 45, 0 => some ⟨[0, 7, 8], []⟩
  | 46, 0 => some ⟨[1, 3, 43, 44, 45], []⟩
  | 47, 0 => some ⟨[0, 1, 7, 8], []⟩
  | 50, 0 => some ⟨[0, 2, 4], [(2004, 1)]⟩
  | 50, 2 => some ⟨[0, 2, 4], [(4004, 1)]⟩
  | 51, 0 => some ⟨[0, 1, 7, 8], []⟩
  | 53, 0 => some ⟨[1, 2, 15, 16, 17], []⟩
  | 55, 0 => some ⟨[0, 1, 12, 13], []⟩
  | 66, 0 => some ⟨[1, 10], []⟩
  | 66, 2 => some ⟨[1, 5, 6, 10, 16], []⟩
  | 72, 0 => some ⟨[0, 1, 7, 8], []⟩
  | 77, 0 => some ⟨[0, 1, 4], []⟩
  | 78, 0 => some ⟨[0, 1, 3, 4, 10, 11, 12, 13, 14, 15, 16], []⟩
  | 78, 2 => some ⟨[0, 1, 3, 4, 10, 11, 12, 13, 17], []⟩
  | 82, 0 => some ⟨[5, 6, 47, 48, 49], []⟩
  | 96, 3 => some ⟨[1, 8, 9, 10, 11, 12, 13, 99, 100, 101], []⟩
  | 100, 0 => some ⟨[0, 3, 4, 5], []⟩
  | _, _ => none
noncomputable def tiL (t : TypeId) : Option TI := tiOf Tryd.prog t
noncomputable def fnL (f : FuncId) : Option Func := fnOf Tryd.prog f
def wordsL : List AV := [.str [], .str [112, 117, 98, 108, 105, 99], .str [115, 101, 99, 114, 101, 116], .str [115, 121, 109], .str [112, 114, 105, 118], .str [112, 117, 98], .str [97, 110, 121]]
def glL (g : Nat) : Option AV := if g = 0 then some (.sl wordsL) else none
noncomputable def E : Env := ⟨tiL, fnL, glL, modeL, libL, annL⟩
set_option maxHeartbeats 1000000
theorem names : Tryd.prog.funcs.toList.all (fun d => !(d.name == "runtime.NumGoroutine")) = true := by kernel_rfl
end Go.EV.Lv
