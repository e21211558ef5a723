/-
  The layer's types.
-/
import Derived.Test.YtkdjkbgcebodgaaDoorEvLv
import Derived.Test.YtkdjkbgcebodgaaDoorEvKl
set_option linter.unusedSimpArgs false
set_option linter.unusedVariables false
namespace Go.EV.Lv
open Go Go.EV Go.Proofs
set_option maxRecDepth 100000
theorem ti3 : E.ti 3 = some ⟨.int .i64, false, 1, 8, .int .i64 0⟩ := by kernel_rfl
theorem ti4 : E.ti 4 = some ⟨.bool, false, 1, 1, .bool false⟩ := by kernel_rfl
theorem ti9 : E.ti 9 = some ⟨.string, false, 1, 16, .str []⟩ := by kernel_rfl
theorem ti28 : E.ti 28 = some ⟨.int .i64, false, 1, 8, .int .i64 0⟩ := by kernel_rfl
theorem ti22 : E.ti 22 = some ⟨.slice 42, false, 1, 24, .nils⟩ := by kernel_rfl
theorem ti33 : E.ti 33 = some ⟨.slice 24, false, 1, 24, .nils⟩ := by kernel_rfl
theorem ti40 : E.ti 40 = some ⟨.slice 3, false, 1, 24, .nils⟩ := by kernel_rfl
theorem ti54 : E.ti 54 = some ⟨.slice 9, false, 1, 24, .nils⟩ := by kernel_rfl
theorem ti24 : E.ti 24 = some ⟨.struct #[{ name := "Kind", type := 3, offset := 0, embedded := false, tag := "", pkgPath := "", byteOffset := 0 }, { name := "Payloads", type := 22, offset := 1, embedded := false, tag := "", pkgPath := "", byteOffset := 8 }], true, 2, 32, .agg [.int .i64 0, .nils]⟩ := by kernel_rfl
theorem ti42 : E.ti 42 = some ⟨.struct #[{ name := "Tag", type := 9, offset := 0, embedded := false, tag := "", pkgPath := "", byteOffset := 0 }, { name := "Parts", type := 40, offset := 1, embedded := false, tag := "", pkgPath := "", byteOffset := 16 }, { name := "Goal", type := 3, offset := 2, embedded := false, tag := "", pkgPath := "", byteOffset := 40 }, { name := "Data", type := 40, offset := 3, embedded := false, tag := "", pkgPath := "", byteOffset := 48 }], true, 4, 72, .agg [.str [], .nils, .int .i64 0, .nils]⟩ := by kernel_rfl
theorem ti5 : E.ti 5 = some ⟨.int .u8, false, 1, 1, .int .u8 0⟩ := by kernel_rfl

theorem bneB {c : Bool} {a b : Bool} : binAV E .neq 4 c (.bool a) (.bool b) = some (.bool (!(a == b))) := by simp [binAV, binEq, eqAV, ti4, eqD]
theorem beqB {c : Bool} {a b : Bool} : binAV E .eql 4 c (.bool a) (.bool b) = some (.bool (a == b)) := by simp [binAV, binEq, eqAV, ti4, eqD]
theorem fo24_0 : fieldOf E 24 0 = some (0, ⟨.int .i64, false, 1, 8, .int .i64 0⟩) := by kernel_rfl
theorem fo24_1 : fieldOf E 24 1 = some (1, ⟨.slice 42, false, 1, 24, .nils⟩) := by kernel_rfl
theorem fo42_0 : fieldOf E 42 0 = some (0, ⟨.string, false, 1, 16, .str []⟩) := by kernel_rfl
theorem fo42_1 : fieldOf E 42 1 = some (1, ⟨.slice 3, false, 1, 24, .nils⟩) := by kernel_rfl
theorem fo42_2 : fieldOf E 42 2 = some (2, ⟨.int .i64, false, 1, 8, .int .i64 0⟩) := by kernel_rfl
theorem fo42_3 : fieldOf E 42 3 = some (3, ⟨.slice 3, false, 1, 24, .nils⟩) := by kernel_rfl

structure Pl where
  tag : List UInt8
  parts : List Int
  goal : Int
  data : List Int
  deriving DecidableEq
structure Ty where
  kind : Int
  ps : List Pl
  deriving DecidableEq
abbrev encInt (n : Int) : AV := .int .i64 n
def encP (p : Pl) : AV := .agg [.str p.tag, .sl (p.parts.map encInt), .int .i64 p.goal, .sl (p.data.map encInt)]
def encT (t : Ty) : AV := .agg [.int .i64 t.kind, .sl (t.ps.map encP)]
def big : Nat := 9223372036854775807
structure Pl.ok (p : Pl) : Prop where
  tag : p.tag.length ≤ big
  parts : p.parts.length ≤ big
  data : p.data.length ≤ big
structure Ty.ok (t : Ty) : Prop where
  ps : t.ps.length ≤ big
  all : ∀ p ∈ t.ps, p.ok
theorem dropAt {β : Type} {l : List β} {i : Nat} (h : i < l.length) : ∃ x, l[i]? = some x ∧ l.drop i = x :: l.drop (i + 1) ∧ x ∈ l := ⟨l[i], List.getElem?_eq_getElem h, List.drop_eq_getElem_cons h, List.getElem_mem h⟩
theorem wrapI {m : Nat} {i : Nat} (h : i < m) (hm : m ≤ big) : IntKind.wrap .i64 ((i : Int) + 1) = ((i + 1 : Nat) : Int) := wrap_succ h hm
theorem nInt (l : List Int) : AV.norm.normL (l.map encInt) = l.map encInt := by
  induction l with
  | nil => rfl
  | cons x l ih => simp [AV.norm.normL, AV.norm, ih]
theorem nP (p : Pl) : (encP p).norm = encP p := by simp [encP, AV.norm, AV.norm.normL, nInt]
theorem nPs (l : List Pl) : AV.norm.normL (l.map encP) = l.map encP := by
  induction l with
  | nil => rfl
  | cons x l ih => simp [AV.norm.normL, nP, ih]
theorem nT (t : Ty) : (encT t).norm = encT t := by simp [encT, AV.norm, AV.norm.normL, nPs]
theorem nTs (l : List Ty) : AV.norm.normL (l.map encT) = l.map encT := by
  induction l with
  | nil => rfl
  | cons x l ih => simp [AV.norm.normL, nT, ih]
theorem pureB {f : FuncId} {args : List AV} {b : Bool} {hp : Heap} (h : callW E f args [] = some (.bool b, hp)) (hn : AV.norm.normL args = args) : pureF (callW E) f args = some (.bool b) := by
  unfold pureF
  rw [hn, h]
  simp [depth, resolve, AV.norm]
theorem pureI {f : FuncId} {args : List AV} {k : IntKind} {n : Int} {hp : Heap} (h : callW E f args [] = some (.int k n, hp)) (hn : AV.norm.normL args = args) : pureF (callW E) f args = some (.int k n) := by
  unfold pureF
  rw [hn, h]
  simp [depth, resolve, AV.norm]
end Go.EV.Lv
