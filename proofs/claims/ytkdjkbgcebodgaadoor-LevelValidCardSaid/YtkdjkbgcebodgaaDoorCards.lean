/-
  DERIVED. GIVEN WITH THE SEED: THE CARDS: each row of YtkdjkbgcebodgaaDoorRows.lean that lists a variable, with what it lists TIED to the program's text (the seventh form; the later family's looks); each row that meets fmt, with fmt's text TOLD by the authors' own Lean function (tested against real Go, not proved from fmt's source: count such statements apart). THE CARD IS WHAT COUNTS. Prove the row's statement (the work); the ties are given (YtkdjkbgcebodgaaDoorTie.lean); close each card by the builder's one call (the guide's Derived/Test/ToyasCard.lean, 'card_holds'). Laid BY PROGRAM, IN A SANDBOX (cutbox-door.mjs). By AI agents, Wed Nov 11 2026. No macro, syntax, notation, axiom, sorry.
-/
import Derived.Test.YtkdjkbgcebodgaaDoorRows
import GoSem.ClaimSeven
namespace Go.Proofs.YtkdjkbgcebodgaaDoor
namespace Rows

/-- THE TIED CARD OF 'sealringlaw49.LevelSub'. -/
def levelSubCard : Claim7 := { stood := { row := levelSubRow, standIns := [], harness := (true, "3fe4795ac424d474b1ec7c377f5d720d95ad94c5c48fd264f854cc913967dab0"), looks := true }, kinds := [], alts := [], laidByText := true, laidKinds := [.data, .data, .data, .sentinel, .sentinel, .widerDeep], laidTests := true, laidLooks := .later }
def LevelSubCardSaid : Prop := Claim7.holds Tryd.pinned (.plain (OpenSpec.ofChange levelSubSpec)) levelSubCard

/-- THE TIED CARD OF 'sealringlaw49.LevelJoin'. -/
def levelJoinCard : Claim7 := { stood := { row := levelJoinRow, standIns := [], harness := (true, "3fe4795ac424d474b1ec7c377f5d720d95ad94c5c48fd264f854cc913967dab0"), looks := true }, kinds := [], alts := [], laidByText := true, laidKinds := [.data, .data, .data, .sentinel, .sentinel, .widerDeep], laidTests := true, laidLooks := .later }
def LevelJoinCardSaid : Prop := Claim7.holds Tryd.pinned (.plain (OpenSpec.ofChange levelJoinSpec)) levelJoinCard

/-- THE TIED CARD OF 'sealringlaw49.LevelMeet'. -/
def levelMeetCard : Claim7 := { stood := { row := levelMeetRow, standIns := [], harness := (true, "3fe4795ac424d474b1ec7c377f5d720d95ad94c5c48fd264f854cc913967dab0"), looks := true }, kinds := [], alts := [], laidByText := true, laidKinds := [.data, .data, .data, .sentinel, .sentinel, .widerDeep], laidTests := true, laidLooks := .later }
def LevelMeetCardSaid : Prop := Claim7.holds Tryd.pinned (.plain (OpenSpec.ofChange levelMeetSpec)) levelMeetCard

/-- THE TIED CARD OF 'sealringlaw49.LevelOpen'. -/
def levelOpenCard : Claim7 := { stood := { row := levelOpenRow, standIns := [], harness := (true, "3fe4795ac424d474b1ec7c377f5d720d95ad94c5c48fd264f854cc913967dab0"), looks := true }, kinds := [], alts := [], laidByText := true, laidKinds := [.data, .data, .data, .sentinel, .sentinel, .widerDeep], laidTests := true, laidLooks := .later }
def LevelOpenCardSaid : Prop := Claim7.holds Tryd.pinned (.plain (OpenSpec.ofChange levelOpenSpec)) levelOpenCard

/-- THE TIED CARD OF 'sealringlaw49.LevelPayload'. -/
def levelPayloadCard : Claim7 := { stood := { row := levelPayloadRow, standIns := [], harness := (true, "3fe4795ac424d474b1ec7c377f5d720d95ad94c5c48fd264f854cc913967dab0"), looks := true }, kinds := [], alts := [], laidByText := true, laidKinds := [.data, .data, .data, .sentinel, .sentinel, .widerDeep], laidTests := true, laidLooks := .later }
def LevelPayloadCardSaid : Prop := Claim7.holds Tryd.pinned (.plain (OpenSpec.ofChange levelPayloadSpec)) levelPayloadCard

/-- THE TIED CARD OF 'sealringlaw49.LevelValid'. -/
def levelValidCard : Claim7 := { stood := { row := levelValidRow, standIns := [], harness := (true, "3fe4795ac424d474b1ec7c377f5d720d95ad94c5c48fd264f854cc913967dab0"), looks := true }, kinds := [], alts := [], laidByText := true, laidKinds := [.data, .data, .data, .sentinel, .sentinel, .widerDeep], laidTests := true, laidLooks := .later }
def LevelValidCardSaid : Prop := Claim7.holds Tryd.pinned (.plain (OpenSpec.ofChange levelValidSpec)) levelValidCard

/-- THE SECOND FORM's CARD OF 'sealringlaw49.LevelSub'. -/
def levelSubUptoCard : Claim7 := { stood := { row := levelSubUptoRow, standIns := [], harness := (true, "3fe4795ac424d474b1ec7c377f5d720d95ad94c5c48fd264f854cc913967dab0"), looks := true }, kinds := [], alts := [], laidByText := true, laidKinds := [.data, .data, .data, .sentinel, .sentinel, .widerDeep], laidTests := true, laidLooks := .later }
def LevelSubUptoCardSaid : Prop := Claim7.holds Tryd.pinned (.plain (OpenSpec.upto levelSubSpec)) levelSubUptoCard

/-- THE SECOND FORM's CARD OF 'sealringlaw49.LevelJoin'. -/
def levelJoinUptoCard : Claim7 := { stood := { row := levelJoinUptoRow, standIns := [], harness := (true, "3fe4795ac424d474b1ec7c377f5d720d95ad94c5c48fd264f854cc913967dab0"), looks := true }, kinds := [], alts := [], laidByText := true, laidKinds := [.data, .data, .data, .sentinel, .sentinel, .widerDeep], laidTests := true, laidLooks := .later }
def LevelJoinUptoCardSaid : Prop := Claim7.holds Tryd.pinned (.plain (OpenSpec.upto levelJoinSpec)) levelJoinUptoCard

/-- THE SECOND FORM's CARD OF 'sealringlaw49.LevelMeet'. -/
def levelMeetUptoCard : Claim7 := { stood := { row := levelMeetUptoRow, standIns := [], harness := (true, "3fe4795ac424d474b1ec7c377f5d720d95ad94c5c48fd264f854cc913967dab0"), looks := true }, kinds := [], alts := [], laidByText := true, laidKinds := [.data, .data, .data, .sentinel, .sentinel, .widerDeep], laidTests := true, laidLooks := .later }
def LevelMeetUptoCardSaid : Prop := Claim7.holds Tryd.pinned (.plain (OpenSpec.upto levelMeetSpec)) levelMeetUptoCard

/-- THE SECOND FORM's CARD OF 'sealringlaw49.LevelOpen'. -/
def levelOpenUptoCard : Claim7 := { stood := { row := levelOpenUptoRow, standIns := [], harness := (true, "3fe4795ac424d474b1ec7c377f5d720d95ad94c5c48fd264f854cc913967dab0"), looks := true }, kinds := [], alts := [], laidByText := true, laidKinds := [.data, .data, .data, .sentinel, .sentinel, .widerDeep], laidTests := true, laidLooks := .later }
def LevelOpenUptoCardSaid : Prop := Claim7.holds Tryd.pinned (.plain (OpenSpec.upto levelOpenSpec)) levelOpenUptoCard

/-- THE SECOND FORM's CARD OF 'sealringlaw49.LevelPayload'. -/
def levelPayloadUptoCard : Claim7 := { stood := { row := levelPayloadUptoRow, standIns := [], harness := (true, "3fe4795ac424d474b1ec7c377f5d720d95ad94c5c48fd264f854cc913967dab0"), looks := true }, kinds := [], alts := [], laidByText := true, laidKinds := [.data, .data, .data, .sentinel, .sentinel, .widerDeep], laidTests := true, laidLooks := .later }
def LevelPayloadUptoCardSaid : Prop := Claim7.holds Tryd.pinned (.plain (OpenSpec.upto levelPayloadSpec)) levelPayloadUptoCard

/-- THE SECOND FORM's CARD OF 'sealringlaw49.LevelValid'. -/
def levelValidUptoCard : Claim7 := { stood := { row := levelValidUptoRow, standIns := [], harness := (true, "3fe4795ac424d474b1ec7c377f5d720d95ad94c5c48fd264f854cc913967dab0"), looks := true }, kinds := [], alts := [], laidByText := true, laidKinds := [.data, .data, .data, .sentinel, .sentinel, .widerDeep], laidTests := true, laidLooks := .later }
def LevelValidUptoCardSaid : Prop := Claim7.holds Tryd.pinned (.plain (OpenSpec.upto levelValidSpec)) levelValidUptoCard
end Rows
end Go.Proofs.YtkdjkbgcebodgaaDoor
