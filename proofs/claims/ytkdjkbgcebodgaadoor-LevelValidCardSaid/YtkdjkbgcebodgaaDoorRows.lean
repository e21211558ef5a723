/-
  NARROWER THAN 'FOR EVERY INPUT', by the rows' own cells (each row's printed sentence says how): LevelSub: laid · LevelJoin: laid · LevelMeet: laid · LevelOpen: laid · LevelPayload: laid · LevelValid: laid.
  DERIVED. THE GIVEN ROWS OF THIS SEAT. 6 by the template 'for every input the law returns true; each argument reads behind the call as it read before'; 0 by the template 'total and deterministic' (their statements: YtkdjkbgcebodgaaDoorTotals.lean).
  GIVEN WITH THE SEED: the statements are not yours to turn. If you find one false, say at which input.
  Laid BY PROGRAM, IN A SANDBOX (cutbox-rows.mjs): the forced cells as the released guide's own fill.sh prints them over the translation 6c6c3f2a9556ea4e… (all of the seat's roots in one cut). By AI agents, Wed Nov 11 2026. No macro, syntax, notation, axiom, sorry.
-/
import Derived.Test.YtkdjkbgcebodgaaDoorChecked
import GoSem.Claim
import GoSem.ClaimJoined
import GoSem.ClaimMapViews
import Derived.JoinedTies
import Derived.KernelRfl
namespace Go.Proofs.YtkdjkbgcebodgaaDoor
/- THE CELL 'sum', in the pinned program and in every row, IS THE sha256 OF THE DUMP (.gsa) THAT YtkdjkbgcebodgaaDoorProg.lean LOADS. Nothing in Lean hashes anything: it is a label: what it is worth is what the hold of that sum in a sandbox is worth. -/
noncomputable def Tryd.pinned : Pinned := { name := "ytkdjkbgcebodgaadoor", sum := "6c6c3f2a9556ea4e19b8dd7a590cc9bc3bc50fa906299f8904f998670a2ea0e3", checked := Tryd.checked }
namespace Rows
def none {H : Type} : Left H := { results := [], args := [] }

/- WHAT THE LISTED PACKAGE-LEVEL VARIABLES READ AS WHEN THE CALL BEGINS. Each datum BY PROGRAM (the guide's laid-datum.mjs) off the statement by which the dump's own 'gosem.cut.vars' lays the variable. In a bare row this is a premise. The card (YtkdjkbgcebodgaaDoorCards.lean) ties it to the program's text. -/
def laid_math_bits_deBruijn32tab {H : Type} : DataW H := .agg [.lit (.int .u8 0), .lit (.int .u8 1), .lit (.int .u8 28), .lit (.int .u8 2), .lit (.int .u8 29), .lit (.int .u8 14), .lit (.int .u8 24), .lit (.int .u8 3), .lit (.int .u8 30), .lit (.int .u8 22), .lit (.int .u8 20), .lit (.int .u8 15), .lit (.int .u8 25), .lit (.int .u8 17), .lit (.int .u8 4), .lit (.int .u8 8), .lit (.int .u8 31), .lit (.int .u8 27), .lit (.int .u8 13), .lit (.int .u8 23), .lit (.int .u8 21), .lit (.int .u8 19), .lit (.int .u8 16), .lit (.int .u8 7), .lit (.int .u8 26), .lit (.int .u8 12), .lit (.int .u8 18), .lit (.int .u8 6), .lit (.int .u8 11), .lit (.int .u8 5), .lit (.int .u8 10), .lit (.int .u8 9)]
def laid_math_bits_deBruijn64tab {H : Type} : DataW H := .agg [.lit (.int .u8 0), .lit (.int .u8 1), .lit (.int .u8 56), .lit (.int .u8 2), .lit (.int .u8 57), .lit (.int .u8 49), .lit (.int .u8 28), .lit (.int .u8 3), .lit (.int .u8 61), .lit (.int .u8 58), .lit (.int .u8 42), .lit (.int .u8 50), .lit (.int .u8 38), .lit (.int .u8 29), .lit (.int .u8 17), .lit (.int .u8 4), .lit (.int .u8 62), .lit (.int .u8 47), .lit (.int .u8 59), .lit (.int .u8 36), .lit (.int .u8 45), .lit (.int .u8 43), .lit (.int .u8 51), .lit (.int .u8 22), .lit (.int .u8 53), .lit (.int .u8 39), .lit (.int .u8 33), .lit (.int .u8 30), .lit (.int .u8 24), .lit (.int .u8 18), .lit (.int .u8 12), .lit (.int .u8 5), .lit (.int .u8 63), .lit (.int .u8 55), .lit (.int .u8 48), .lit (.int .u8 27), .lit (.int .u8 60), .lit (.int .u8 41), .lit (.int .u8 37), .lit (.int .u8 16), .lit (.int .u8 46), .lit (.int .u8 35), .lit (.int .u8 44), .lit (.int .u8 21), .lit (.int .u8 52), .lit (.int .u8 32), .lit (.int .u8 23), .lit (.int .u8 11), .lit (.int .u8 54), .lit (.int .u8 26), .lit (.int .u8 40), .lit (.int .u8 15), .lit (.int .u8 34), .lit (.int .u8 20), .lit (.int .u8 31), .lit (.int .u8 10), .lit (.int .u8 25), .lit (.int .u8 14), .lit (.int .u8 19), .lit (.int .u8 9), .lit (.int .u8 13), .lit (.int .u8 8), .lit (.int .u8 7), .lit (.int .u8 6)]
def laid_internal_strconv_uint64pow10 {H : Type} : DataW H := .agg [.lit (.int .u64 1), .lit (.int .u64 10), .lit (.int .u64 100), .lit (.int .u64 1000), .lit (.int .u64 10000), .lit (.int .u64 100000), .lit (.int .u64 1000000), .lit (.int .u64 10000000), .lit (.int .u64 100000000), .lit (.int .u64 1000000000), .lit (.int .u64 10000000000), .lit (.int .u64 100000000000), .lit (.int .u64 1000000000000), .lit (.int .u64 10000000000000), .lit (.int .u64 100000000000000), .lit (.int .u64 1000000000000000), .lit (.int .u64 10000000000000000), .lit (.int .u64 100000000000000000), .lit (.int .u64 1000000000000000000), .lit (.int .u64 10000000000000000000)]
def laid_strconv_ErrRange {H : Type} : DataW H := .iface "*errors.errorString" (.ptr (.agg [.lit (.string [118, 97, 108, 117, 101, 32, 111, 117, 116, 32, 111, 102, 32, 114, 97, 110, 103, 101])]))
def laid_strconv_ErrSyntax {H : Type} : DataW H := .iface "*errors.errorString" (.ptr (.agg [.lit (.string [105, 110, 118, 97, 108, 105, 100, 32, 115, 121, 110, 116, 97, 120])]))
def laid_sealring_level_words {H : Type} : DataW H := .slice [.lit (.string []), .lit (.string [112, 117, 98, 108, 105, 99]), .lit (.string [115, 101, 99, 114, 101, 116]), .lit (.string [115, 121, 109]), .lit (.string [112, 114, 105, 118]), .lit (.string [112, 117, 98]), .lit (.string [97, 110, 121])] []

/-- 'sealringlaw49.LevelSub': WHATEVER THE INPUT: true; the input reads as it did. -/
def levelSubSpec : ChangeSpec := { name := "levelSub", fn := fun _ => fun
  | [d1, d2, d3] => { results := [.lit (.bool true)], args := [d1, d2, d3] }
  | _ => none }
def levelSubRow : OpenClaim := { program := "ytkdjkbgcebodgaadoor", sum := "6c6c3f2a9556ea4e19b8dd7a590cc9bc3bc50fa906299f8904f998670a2ea0e3", func := "sealring/sealringlaw49.LevelSub", spec := "levelSub", unfollowed := true, recurses := true, named := ["sealring/level.words", "strconv.ErrSyntax", "strconv.ErrRange", "internal/strconv.uint64pow10", "math/bits.deBruijn32tab", "math/bits.deBruijn64tab"], apart := false, laid := [("math/bits.deBruijn32tab", laid_math_bits_deBruijn32tab), ("math/bits.deBruijn64tab", laid_math_bits_deBruijn64tab), ("internal/strconv.uint64pow10", laid_internal_strconv_uint64pow10), ("strconv.ErrRange", laid_strconv_ErrRange), ("strconv.ErrSyntax", laid_strconv_ErrSyntax), ("sealring/level.words", laid_sealring_level_words)] }
def LevelSubSaid : Prop := levelSubRow.holds Tryd.pinned (OpenSpec.ofChange levelSubSpec)

/-- ITS FALSE NEIGHBOUR: 'it returns false'. Refute it at one input. -/
def levelSubWrong : ChangeSpec := { name := "levelSub", fn := fun _ => fun
  | [d1, d2, d3] => { results := [.lit (.bool false)], args := [d1, d2, d3] }
  | _ => none }
def LevelSubWrongFalsely : Prop := levelSubRow.holds Tryd.pinned (OpenSpec.ofChange levelSubWrong)

/-- 'sealringlaw49.LevelJoin': WHATEVER THE INPUT: true; the input reads as it did. -/
def levelJoinSpec : ChangeSpec := { name := "levelJoin", fn := fun _ => fun
  | [d1, d2, d3] => { results := [.lit (.bool true)], args := [d1, d2, d3] }
  | _ => none }
def levelJoinRow : OpenClaim := { program := "ytkdjkbgcebodgaadoor", sum := "6c6c3f2a9556ea4e19b8dd7a590cc9bc3bc50fa906299f8904f998670a2ea0e3", func := "sealring/sealringlaw49.LevelJoin", spec := "levelJoin", unfollowed := true, recurses := true, named := ["sealring/level.words", "strconv.ErrSyntax", "strconv.ErrRange", "internal/strconv.uint64pow10", "math/bits.deBruijn32tab", "math/bits.deBruijn64tab"], apart := false, laid := [("math/bits.deBruijn32tab", laid_math_bits_deBruijn32tab), ("math/bits.deBruijn64tab", laid_math_bits_deBruijn64tab), ("internal/strconv.uint64pow10", laid_internal_strconv_uint64pow10), ("strconv.ErrRange", laid_strconv_ErrRange), ("strconv.ErrSyntax", laid_strconv_ErrSyntax), ("sealring/level.words", laid_sealring_level_words)] }
def LevelJoinSaid : Prop := levelJoinRow.holds Tryd.pinned (OpenSpec.ofChange levelJoinSpec)

/-- ITS FALSE NEIGHBOUR: 'it returns false'. Refute it at one input. -/
def levelJoinWrong : ChangeSpec := { name := "levelJoin", fn := fun _ => fun
  | [d1, d2, d3] => { results := [.lit (.bool false)], args := [d1, d2, d3] }
  | _ => none }
def LevelJoinWrongFalsely : Prop := levelJoinRow.holds Tryd.pinned (OpenSpec.ofChange levelJoinWrong)

/-- 'sealringlaw49.LevelMeet': WHATEVER THE INPUT: true; the input reads as it did. -/
def levelMeetSpec : ChangeSpec := { name := "levelMeet", fn := fun _ => fun
  | [d1, d2, d3] => { results := [.lit (.bool true)], args := [d1, d2, d3] }
  | _ => none }
def levelMeetRow : OpenClaim := { program := "ytkdjkbgcebodgaadoor", sum := "6c6c3f2a9556ea4e19b8dd7a590cc9bc3bc50fa906299f8904f998670a2ea0e3", func := "sealring/sealringlaw49.LevelMeet", spec := "levelMeet", unfollowed := true, recurses := true, named := ["sealring/level.words", "strconv.ErrSyntax", "strconv.ErrRange", "internal/strconv.uint64pow10", "math/bits.deBruijn32tab", "math/bits.deBruijn64tab"], apart := false, laid := [("math/bits.deBruijn32tab", laid_math_bits_deBruijn32tab), ("math/bits.deBruijn64tab", laid_math_bits_deBruijn64tab), ("internal/strconv.uint64pow10", laid_internal_strconv_uint64pow10), ("strconv.ErrRange", laid_strconv_ErrRange), ("strconv.ErrSyntax", laid_strconv_ErrSyntax), ("sealring/level.words", laid_sealring_level_words)] }
def LevelMeetSaid : Prop := levelMeetRow.holds Tryd.pinned (OpenSpec.ofChange levelMeetSpec)

/-- ITS FALSE NEIGHBOUR: 'it returns false'. Refute it at one input. -/
def levelMeetWrong : ChangeSpec := { name := "levelMeet", fn := fun _ => fun
  | [d1, d2, d3] => { results := [.lit (.bool false)], args := [d1, d2, d3] }
  | _ => none }
def LevelMeetWrongFalsely : Prop := levelMeetRow.holds Tryd.pinned (OpenSpec.ofChange levelMeetWrong)

/-- 'sealringlaw49.LevelOpen': WHATEVER THE INPUT: true; the input reads as it did. -/
def levelOpenSpec : ChangeSpec := { name := "levelOpen", fn := fun _ => fun
  | [d1, d2] => { results := [.lit (.bool true)], args := [d1, d2] }
  | _ => none }
def levelOpenRow : OpenClaim := { program := "ytkdjkbgcebodgaadoor", sum := "6c6c3f2a9556ea4e19b8dd7a590cc9bc3bc50fa906299f8904f998670a2ea0e3", func := "sealring/sealringlaw49.LevelOpen", spec := "levelOpen", unfollowed := true, recurses := true, named := ["sealring/level.words", "strconv.ErrSyntax", "strconv.ErrRange", "internal/strconv.uint64pow10", "math/bits.deBruijn32tab", "math/bits.deBruijn64tab"], apart := false, laid := [("math/bits.deBruijn32tab", laid_math_bits_deBruijn32tab), ("math/bits.deBruijn64tab", laid_math_bits_deBruijn64tab), ("internal/strconv.uint64pow10", laid_internal_strconv_uint64pow10), ("strconv.ErrRange", laid_strconv_ErrRange), ("strconv.ErrSyntax", laid_strconv_ErrSyntax), ("sealring/level.words", laid_sealring_level_words)] }
def LevelOpenSaid : Prop := levelOpenRow.holds Tryd.pinned (OpenSpec.ofChange levelOpenSpec)

/-- ITS FALSE NEIGHBOUR: 'it returns false'. Refute it at one input. -/
def levelOpenWrong : ChangeSpec := { name := "levelOpen", fn := fun _ => fun
  | [d1, d2] => { results := [.lit (.bool false)], args := [d1, d2] }
  | _ => none }
def LevelOpenWrongFalsely : Prop := levelOpenRow.holds Tryd.pinned (OpenSpec.ofChange levelOpenWrong)

/-- 'sealringlaw49.LevelPayload': WHATEVER THE INPUT: true; the input reads as it did. -/
def levelPayloadSpec : ChangeSpec := { name := "levelPayload", fn := fun _ => fun
  | [d1, d2] => { results := [.lit (.bool true)], args := [d1, d2] }
  | _ => none }
def levelPayloadRow : OpenClaim := { program := "ytkdjkbgcebodgaadoor", sum := "6c6c3f2a9556ea4e19b8dd7a590cc9bc3bc50fa906299f8904f998670a2ea0e3", func := "sealring/sealringlaw49.LevelPayload", spec := "levelPayload", unfollowed := true, recurses := true, named := ["sealring/level.words", "strconv.ErrSyntax", "strconv.ErrRange", "internal/strconv.uint64pow10", "math/bits.deBruijn32tab", "math/bits.deBruijn64tab"], apart := false, laid := [("math/bits.deBruijn32tab", laid_math_bits_deBruijn32tab), ("math/bits.deBruijn64tab", laid_math_bits_deBruijn64tab), ("internal/strconv.uint64pow10", laid_internal_strconv_uint64pow10), ("strconv.ErrRange", laid_strconv_ErrRange), ("strconv.ErrSyntax", laid_strconv_ErrSyntax), ("sealring/level.words", laid_sealring_level_words)] }
def LevelPayloadSaid : Prop := levelPayloadRow.holds Tryd.pinned (OpenSpec.ofChange levelPayloadSpec)

/-- ITS FALSE NEIGHBOUR: 'it returns false'. Refute it at one input. -/
def levelPayloadWrong : ChangeSpec := { name := "levelPayload", fn := fun _ => fun
  | [d1, d2] => { results := [.lit (.bool false)], args := [d1, d2] }
  | _ => none }
def LevelPayloadWrongFalsely : Prop := levelPayloadRow.holds Tryd.pinned (OpenSpec.ofChange levelPayloadWrong)

/-- 'sealringlaw49.LevelValid': WHATEVER THE INPUT: true; the input reads as it did. -/
def levelValidSpec : ChangeSpec := { name := "levelValid", fn := fun _ => fun
  | [d] => { results := [.lit (.bool true)], args := [d] }
  | _ => none }
def levelValidRow : OpenClaim := { program := "ytkdjkbgcebodgaadoor", sum := "6c6c3f2a9556ea4e19b8dd7a590cc9bc3bc50fa906299f8904f998670a2ea0e3", func := "sealring/sealringlaw49.LevelValid", spec := "levelValid", inPlace := ["internal/abi.NoEscape", "internal/bytealg.MakeNoZero"], unfollowed := true, recurses := true, named := ["sealring/level.words", "strconv.ErrSyntax", "strconv.ErrRange", "internal/strconv.uint64pow10", "math/bits.deBruijn32tab", "math/bits.deBruijn64tab"], apart := false, laid := [("math/bits.deBruijn32tab", laid_math_bits_deBruijn32tab), ("math/bits.deBruijn64tab", laid_math_bits_deBruijn64tab), ("internal/strconv.uint64pow10", laid_internal_strconv_uint64pow10), ("strconv.ErrRange", laid_strconv_ErrRange), ("strconv.ErrSyntax", laid_strconv_ErrSyntax), ("sealring/level.words", laid_sealring_level_words)] }
def LevelValidSaid : Prop := levelValidRow.holds Tryd.pinned (OpenSpec.ofChange levelValidSpec)

/-- ITS FALSE NEIGHBOUR: 'it returns false'. Refute it at one input. -/
def levelValidWrong : ChangeSpec := { name := "levelValid", fn := fun _ => fun
  | [d] => { results := [.lit (.bool false)], args := [d] }
  | _ => none }
def LevelValidWrongFalsely : Prop := levelValidRow.holds Tryd.pinned (OpenSpec.ofChange levelValidWrong)

/- THE SECOND FORM. 'bulk': how many values and letters a reading holds, each counted each time it is reached (what is shared counts as often as it is met; a slice's spare places count too). A statement '..UptoSaid' is the law's where the arguments, and the package variables that the reading takes, are together of bulk at most 1048576: NARROWER than '..Said'. Prove '..Said' where nothing that the law and all that it calls make is longer than what came in: it says more and counts as full. Else prove '..UptoSaid'. A law counts once. -/
mutual
def uptoBulk {H : Type} : DataW H → Nat
  | .lit (.string bytes) => bytes.length + 1
  | .lit _ => 1
  | .nil => 1
  | .ptr d => uptoBulk d + 1
  | .slice elems spare => uptoBulkAll elems + uptoBulkAll spare + 1
  | .agg parts => uptoBulkAll parts + 1
  | .iface _ d => uptoBulk d + 1
  | .map entries => uptoBulkEntries entries + 1
  | .held _ => 1
def uptoBulkAll {H : Type} : List (DataW H) → Nat
  | [] => 0
  | d :: r => uptoBulk d + uptoBulkAll r
def uptoBulkEntries {H : Type} : List (Lit × DataW H) → Nat
  | [] => 0
  | x :: r => uptoBulkEntry x + uptoBulkEntries r
def uptoBulkEntry {H : Type} : Lit × DataW H → Nat
  | (.string bytes, d) => bytes.length + uptoBulk d + 1
  | (_, d) => uptoBulk d + 1
 end
def uptoSmall : (H : Type) → List (DataW H) → Bool := fun _ ds => decide (uptoBulkAll ds ≤ 1048576)
def OpenSpec.upto (s : _root_.Go.ChangeSpec) : _root_.Go.OpenSpec := { _root_.Go.OpenSpec.ofChange s with cond := some uptoSmall }

/-- 'sealringlaw49.LevelSub', WHERE WHAT IT READS IS OF BULK AT MOST 1048576: true; the input reads as it did. -/
def levelSubUptoRow : OpenClaim := { program := "ytkdjkbgcebodgaadoor", sum := "6c6c3f2a9556ea4e19b8dd7a590cc9bc3bc50fa906299f8904f998670a2ea0e3", func := "sealring/sealringlaw49.LevelSub", spec := "levelSub", unfollowed := true, recurses := true, named := ["sealring/level.words", "strconv.ErrSyntax", "strconv.ErrRange", "internal/strconv.uint64pow10", "math/bits.deBruijn32tab", "math/bits.deBruijn64tab"], apart := false, laid := [("math/bits.deBruijn32tab", laid_math_bits_deBruijn32tab), ("math/bits.deBruijn64tab", laid_math_bits_deBruijn64tab), ("internal/strconv.uint64pow10", laid_internal_strconv_uint64pow10), ("strconv.ErrRange", laid_strconv_ErrRange), ("strconv.ErrSyntax", laid_strconv_ErrSyntax), ("sealring/level.words", laid_sealring_level_words)], narrowed := true }
def LevelSubUptoSaid : Prop := levelSubUptoRow.holds Tryd.pinned (OpenSpec.upto levelSubSpec)

/-- 'sealringlaw49.LevelJoin', WHERE WHAT IT READS IS OF BULK AT MOST 1048576: true; the input reads as it did. -/
def levelJoinUptoRow : OpenClaim := { program := "ytkdjkbgcebodgaadoor", sum := "6c6c3f2a9556ea4e19b8dd7a590cc9bc3bc50fa906299f8904f998670a2ea0e3", func := "sealring/sealringlaw49.LevelJoin", spec := "levelJoin", unfollowed := true, recurses := true, named := ["sealring/level.words", "strconv.ErrSyntax", "strconv.ErrRange", "internal/strconv.uint64pow10", "math/bits.deBruijn32tab", "math/bits.deBruijn64tab"], apart := false, laid := [("math/bits.deBruijn32tab", laid_math_bits_deBruijn32tab), ("math/bits.deBruijn64tab", laid_math_bits_deBruijn64tab), ("internal/strconv.uint64pow10", laid_internal_strconv_uint64pow10), ("strconv.ErrRange", laid_strconv_ErrRange), ("strconv.ErrSyntax", laid_strconv_ErrSyntax), ("sealring/level.words", laid_sealring_level_words)], narrowed := true }
def LevelJoinUptoSaid : Prop := levelJoinUptoRow.holds Tryd.pinned (OpenSpec.upto levelJoinSpec)

/-- 'sealringlaw49.LevelMeet', WHERE WHAT IT READS IS OF BULK AT MOST 1048576: true; the input reads as it did. -/
def levelMeetUptoRow : OpenClaim := { program := "ytkdjkbgcebodgaadoor", sum := "6c6c3f2a9556ea4e19b8dd7a590cc9bc3bc50fa906299f8904f998670a2ea0e3", func := "sealring/sealringlaw49.LevelMeet", spec := "levelMeet", unfollowed := true, recurses := true, named := ["sealring/level.words", "strconv.ErrSyntax", "strconv.ErrRange", "internal/strconv.uint64pow10", "math/bits.deBruijn32tab", "math/bits.deBruijn64tab"], apart := false, laid := [("math/bits.deBruijn32tab", laid_math_bits_deBruijn32tab), ("math/bits.deBruijn64tab", laid_math_bits_deBruijn64tab), ("internal/strconv.uint64pow10", laid_internal_strconv_uint64pow10), ("strconv.ErrRange", laid_strconv_ErrRange), ("strconv.ErrSyntax", laid_strconv_ErrSyntax), ("sealring/level.words", laid_sealring_level_words)], narrowed := true }
def LevelMeetUptoSaid : Prop := levelMeetUptoRow.holds Tryd.pinned (OpenSpec.upto levelMeetSpec)

/-- 'sealringlaw49.LevelOpen', WHERE WHAT IT READS IS OF BULK AT MOST 1048576: true; the input reads as it did. -/
def levelOpenUptoRow : OpenClaim := { program := "ytkdjkbgcebodgaadoor", sum := "6c6c3f2a9556ea4e19b8dd7a590cc9bc3bc50fa906299f8904f998670a2ea0e3", func := "sealring/sealringlaw49.LevelOpen", spec := "levelOpen", unfollowed := true, recurses := true, named := ["sealring/level.words", "strconv.ErrSyntax", "strconv.ErrRange", "internal/strconv.uint64pow10", "math/bits.deBruijn32tab", "math/bits.deBruijn64tab"], apart := false, laid := [("math/bits.deBruijn32tab", laid_math_bits_deBruijn32tab), ("math/bits.deBruijn64tab", laid_math_bits_deBruijn64tab), ("internal/strconv.uint64pow10", laid_internal_strconv_uint64pow10), ("strconv.ErrRange", laid_strconv_ErrRange), ("strconv.ErrSyntax", laid_strconv_ErrSyntax), ("sealring/level.words", laid_sealring_level_words)], narrowed := true }
def LevelOpenUptoSaid : Prop := levelOpenUptoRow.holds Tryd.pinned (OpenSpec.upto levelOpenSpec)

/-- 'sealringlaw49.LevelPayload', WHERE WHAT IT READS IS OF BULK AT MOST 1048576: true; the input reads as it did. -/
def levelPayloadUptoRow : OpenClaim := { program := "ytkdjkbgcebodgaadoor", sum := "6c6c3f2a9556ea4e19b8dd7a590cc9bc3bc50fa906299f8904f998670a2ea0e3", func := "sealring/sealringlaw49.LevelPayload", spec := "levelPayload", unfollowed := true, recurses := true, named := ["sealring/level.words", "strconv.ErrSyntax", "strconv.ErrRange", "internal/strconv.uint64pow10", "math/bits.deBruijn32tab", "math/bits.deBruijn64tab"], apart := false, laid := [("math/bits.deBruijn32tab", laid_math_bits_deBruijn32tab), ("math/bits.deBruijn64tab", laid_math_bits_deBruijn64tab), ("internal/strconv.uint64pow10", laid_internal_strconv_uint64pow10), ("strconv.ErrRange", laid_strconv_ErrRange), ("strconv.ErrSyntax", laid_strconv_ErrSyntax), ("sealring/level.words", laid_sealring_level_words)], narrowed := true }
def LevelPayloadUptoSaid : Prop := levelPayloadUptoRow.holds Tryd.pinned (OpenSpec.upto levelPayloadSpec)

/-- 'sealringlaw49.LevelValid', WHERE WHAT IT READS IS OF BULK AT MOST 1048576: true; the input reads as it did. -/
def levelValidUptoRow : OpenClaim := { program := "ytkdjkbgcebodgaadoor", sum := "6c6c3f2a9556ea4e19b8dd7a590cc9bc3bc50fa906299f8904f998670a2ea0e3", func := "sealring/sealringlaw49.LevelValid", spec := "levelValid", inPlace := ["internal/abi.NoEscape", "internal/bytealg.MakeNoZero"], unfollowed := true, recurses := true, named := ["sealring/level.words", "strconv.ErrSyntax", "strconv.ErrRange", "internal/strconv.uint64pow10", "math/bits.deBruijn32tab", "math/bits.deBruijn64tab"], apart := false, laid := [("math/bits.deBruijn32tab", laid_math_bits_deBruijn32tab), ("math/bits.deBruijn64tab", laid_math_bits_deBruijn64tab), ("internal/strconv.uint64pow10", laid_internal_strconv_uint64pow10), ("strconv.ErrRange", laid_strconv_ErrRange), ("strconv.ErrSyntax", laid_strconv_ErrSyntax), ("sealring/level.words", laid_sealring_level_words)], narrowed := true }
def LevelValidUptoSaid : Prop := levelValidUptoRow.holds Tryd.pinned (OpenSpec.upto levelValidSpec)

end Rows
end Go.Proofs.YtkdjkbgcebodgaaDoor
