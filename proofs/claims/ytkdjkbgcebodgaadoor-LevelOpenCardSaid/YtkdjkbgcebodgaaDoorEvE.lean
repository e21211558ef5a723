/-
  What the evaluator asks of a program, read off the program.
-/
import Derived.Test.YtkdjkbgcebodgaaDoorEvL
set_option linter.unusedSimpArgs false
set_option linter.unusedVariables false
namespace Go.EV

noncomputable def tiOf (P : Program) (t : TypeId) : Option TI :=
  match P.underlying t, P.info? t with
  | some d, some i => match i.zero with
    | some z => some ⟨d, isAggD d, i.size, i.bytes, constAV z⟩
    | none => none
  | _, _ => none
theorem tiOf_ok {P : Program} {t : TypeId} {ti : TI} (h : tiOf P t = some ti) : TiOk P t ti := by
  unfold tiOf at h
  split at h
  · rename_i d i hd hi
    split at h
    · rename_i z hz
      injection h with h; subst h
      exact ⟨hd, rfl, i, hi, rfl, rfl, z, hz, fun Z w => constAV_rel z⟩
    · cases h
  · cases h

noncomputable def fnOf (P : Program) (f : FuncId) : Option Func := P.funcs[f]?
end Go.EV
