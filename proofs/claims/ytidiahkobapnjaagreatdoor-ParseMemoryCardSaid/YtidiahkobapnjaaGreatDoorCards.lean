/-
  DERIVED. GIVEN WITH THE SEED: THE CARDS: each row of YtidiahkobapnjaaGreatDoorRows.lean that lists a variable, with what it lists TIED to the program's text (the seventh form; the later family's looks); each row that meets fmt, with fmt's text TOLD by the authors' own Lean function (tested against real Go, not proved from fmt's source: count such statements apart). THE CARD IS WHAT COUNTS. Prove the row's statement (the work); the ties are given (YtidiahkobapnjaaGreatDoorTie.lean); close each card by the builder's one call (the guide's Derived/Test/ToyasCard.lean, 'card_holds'). Laid BY PROGRAM, IN A SANDBOX (cutbox-door.mjs). By AI agents, Wed Nov 11 2026. No macro, syntax, notation, axiom, sorry.
-/
import Derived.Test.YtidiahkobapnjaaGreatDoorRows
import GoSem.ClaimSeven
namespace Go.Proofs.YtidiahkobapnjaaGreatDoor
namespace Rows

/-- THE TIED CARD OF 'trestlelaw12.ParseMemory'. -/
def parseMemoryCard : Claim7 := { stood := { row := parseMemoryRow, standIns := [], harness := (true, "6b7fa1d605174757dd1b8ea1ce268ba41412aee202251c5b83862f04bdb2eed4"), looks := true }, kinds := [], alts := [], laidByText := true, laidKinds := [.data, .data, .data, .data, .listed, .data, .pinned], laidTests := true, laidLooks := .later }
def ParseMemoryCardSaid : Prop := Claim7.holds Tryz.pinned (.plain (OpenSpec.ofChange parseMemorySpec)) parseMemoryCard

/-- THE SECOND FORM's CARD OF 'trestlelaw12.ParseMemory'. -/
def parseMemoryUptoCard : Claim7 := { stood := { row := parseMemoryUptoRow, standIns := [], harness := (true, "6b7fa1d605174757dd1b8ea1ce268ba41412aee202251c5b83862f04bdb2eed4"), looks := true }, kinds := [], alts := [], laidByText := true, laidKinds := [.data, .data, .data, .data, .listed, .data, .pinned], laidTests := true, laidLooks := .later }
def ParseMemoryUptoCardSaid : Prop := Claim7.holds Tryz.pinned (.plain (OpenSpec.upto parseMemorySpec)) parseMemoryUptoCard
end Rows
end Go.Proofs.YtidiahkobapnjaaGreatDoor
