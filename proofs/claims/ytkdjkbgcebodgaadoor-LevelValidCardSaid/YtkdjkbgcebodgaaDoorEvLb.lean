/-
  Two functions of Go's library, by the shelf's contracts: slices.Clone at []int, strings.Join.
-/
import Derived.Test.YtkdjkbgcebodgaaDoorEvE
import Derived.Shelf.Slices.Clone
import Derived.Shelf.Strings.OnBuilder
import Derived.Test.YtkdjkbgcebodgaaDoorTie
set_option linter.unusedSimpArgs false
set_option linter.unusedVariables false
namespace Go.EV.Lv
open Go Go.EV Go.Proofs Go.RowKit
set_option maxRecDepth 100000
def layC_ren : Go.Shelf.Ren := ⟨fun | 15 => 58 | n => n, fun | 22 => 40 | 3 => 3 | 4 => 4 | n => n, fun n => n⟩
theorem layC : Lays2.n15 Tryd.prog layC_ren := {
  mixed := by kernel_rfl,
  f15 := Tryd.func58.trans (congrArg some (by kernel_rfl)),
  t3 := Tryd.underlying3,
  a3 := Tryd.isAgg3,
  z3 := Tryd.sizeOf3,
  v3 := Tryd.zeroValue3,
  t4 := Tryd.underlying4,
  a4 := Tryd.isAgg4,
  z4 := Tryd.sizeOf4,
  v4 := Tryd.zeroValue4,
  t22 := Tryd.underlying40,
  a22 := Tryd.isAgg40,
  z22 := Tryd.sizeOf40,
  v22 := Tryd.zeroValue40,
  i3 := by kernel_rfl }
def layJ_ren : Go.Shelf.Ren := ⟨fun | 156 => 42 | 165 => 60 | 166 => 61 | 169 => 62 | 240 => 70 | 241 => 71 | 276 => 79 | 277 => 80 | n => n, fun | 31 => 54 | 9 => 9 | 3 => 3 | 4 => 4 | 0 => 0 | 20 => 20 | 72 => 73 | 76 => 77 | 70 => 70 | 37 => 71 | 75 => 76 | 127 => 87 | 164 => 95 | 5 => 5 | 80 => 79 | n => n, fun n => n⟩
theorem layJ : Lays.n156 Tryd.prog layJ_ren := {
  mixed := by kernel_rfl,
  f156 := Tryd.func42.trans (congrArg some (by kernel_rfl)),
  f165 := Tryd.func60.trans (congrArg some (by kernel_rfl)),
  f166 := Tryd.func61.trans (congrArg some (by kernel_rfl)),
  f169 := Tryd.func62.trans (congrArg some (by kernel_rfl)),
  f240 := Tryd.func70.trans (congrArg some (by kernel_rfl)),
  f241 := Tryd.func71.trans (congrArg some (by kernel_rfl)),
  f276 := Tryd.func79.trans (congrArg some (by kernel_rfl)),
  f277 := Tryd.func80.trans (congrArg some (by kernel_rfl)),
  t0 := Tryd.underlying0,
  a0 := Tryd.isAgg0,
  z0 := Tryd.sizeOf0,
  v0 := Tryd.zeroValue0,
  t3 := Tryd.underlying3,
  a3 := Tryd.isAgg3,
  z3 := Tryd.sizeOf3,
  v3 := Tryd.zeroValue3,
  t4 := Tryd.underlying4,
  a4 := Tryd.isAgg4,
  z4 := Tryd.sizeOf4,
  v4 := Tryd.zeroValue4,
  t9 := Tryd.underlying9,
  a9 := Tryd.isAgg9,
  z9 := Tryd.sizeOf9,
  v9 := Tryd.zeroValue9,
  t20 := Tryd.underlying20,
  a20 := Tryd.isAgg20,
  z20 := Tryd.sizeOf20,
  v20 := Tryd.zeroValue20,
  t31 := Tryd.underlying54,
  a31 := Tryd.isAgg54,
  z31 := Tryd.sizeOf54,
  v31 := Tryd.zeroValue54,
  t37 := Tryd.underlying71,
  a37 := Tryd.isAgg71,
  z37 := Tryd.sizeOf71,
  v37 := Tryd.zeroValue71,
  t70 := Tryd.underlying70,
  a70 := Tryd.isAgg70,
  z70 := Tryd.sizeOf70,
  v70 := Tryd.zeroValue70,
  t72 := Tryd.underlying73,
  a72 := Tryd.isAgg73,
  z72 := Tryd.sizeOf73,
  v72 := Tryd.zeroValue73,
  t75 := Tryd.underlying76,
  a75 := Tryd.isAgg76,
  z75 := Tryd.sizeOf76,
  v75 := Tryd.zeroValue76,
  t76 := Tryd.underlying77,
  a76 := Tryd.isAgg77,
  z76 := Tryd.sizeOf77,
  v76 := Tryd.zeroValue77,
  t127 := Tryd.underlying87,
  a127 := Tryd.isAgg87,
  z127 := Tryd.sizeOf87,
  v127 := Tryd.zeroValue87,
  t164 := Tryd.underlying95,
  a164 := Tryd.isAgg95,
  z164 := Tryd.sizeOf95,
  v164 := Tryd.zeroValue95 }
theorem layX : Builder.Extra Tryd.prog layJ_ren := {
  sizeBuilder := by kernel_rfl,
  liesBuilder := by kernel_rfl,
  t5 := Tryd.underlying5,
  a5 := Tryd.isAgg5,
  z5 := Tryd.sizeOf5,
  v5 := Tryd.zeroValue5,
  infoByte := by kernel_rfl,
  cellsByte := by kernel_rfl,
  sizeByte := by kernel_rfl,
  neB5 := by decide }
end Go.EV.Lv
