/-
  DERIVED. GIVEN WITH THE SEED: THE CARDS: each row of YteccladehmaglaaGreatDoorRows.lean that lists a variable, with what it lists TIED to the program's text (the seventh form; the later family's looks); each row that meets fmt, with fmt's text TOLD by the authors' own Lean function (tested against real Go, not proved from fmt's source: count such statements apart). THE CARD IS WHAT COUNTS. Prove the row's statement (the work); the ties are given (YteccladehmaglaaGreatDoorTie.lean); close each card by the builder's one call (the guide's Derived/Test/ToyasCard.lean, 'card_holds'). Laid BY PROGRAM, IN A SANDBOX (cutbox-door.mjs). By AI agents, Wed Nov 11 2026. No macro, syntax, notation, axiom, sorry.
-/
import Derived.Test.YteccladehmaglaaGreatDoorRows
import GoSem.ClaimSeven
namespace Go.Proofs.YteccladehmaglaaGreatDoor
namespace Rows

/-- THE TIED CARD OF 'trestlelaw13.CheckReports'. -/
def checkReportsCard : Claim7 := { stood := { row := checkReportsRow, standIns := [], harness := (true, "7c09b63560c8fe5adfd784f2e55d1276b9b9e363a71702abbab49c79354c08db"), looks := true }, kinds := [], alts := [], laidByText := true, laidKinds := [.data, .listed, .data, .pinned], laidTests := true, laidLooks := .later }
def CheckReportsCardSaid : Prop := Claim7.holds Tryz.pinned (.plain (OpenSpec.ofChange checkReportsSpec)) checkReportsCard

/-- THE TIED CARD OF 'trestlelaw13.CheckMemory'. -/
def checkMemoryCard : Claim7 := { stood := { row := checkMemoryRow, standIns := [], harness := (true, "7c09b63560c8fe5adfd784f2e55d1276b9b9e363a71702abbab49c79354c08db"), looks := true }, kinds := [], alts := [], laidByText := true, laidKinds := [.data, .listed, .data, .pinned], laidTests := true, laidLooks := .later }
def CheckMemoryCardSaid : Prop := Claim7.holds Tryz.pinned (.plain (OpenSpec.ofChange checkMemorySpec)) checkMemoryCard

/-- THE SECOND FORM's CARD OF 'trestlelaw13.CheckReports'. -/
def checkReportsUptoCard : Claim7 := { stood := { row := checkReportsUptoRow, standIns := [], harness := (true, "7c09b63560c8fe5adfd784f2e55d1276b9b9e363a71702abbab49c79354c08db"), looks := true }, kinds := [], alts := [], laidByText := true, laidKinds := [.data, .listed, .data, .pinned], laidTests := true, laidLooks := .later }
def CheckReportsUptoCardSaid : Prop := Claim7.holds Tryz.pinned (.plain (OpenSpec.upto checkReportsSpec)) checkReportsUptoCard

/-- THE SECOND FORM's CARD OF 'trestlelaw13.CheckMemory'. -/
def checkMemoryUptoCard : Claim7 := { stood := { row := checkMemoryUptoRow, standIns := [], harness := (true, "7c09b63560c8fe5adfd784f2e55d1276b9b9e363a71702abbab49c79354c08db"), looks := true }, kinds := [], alts := [], laidByText := true, laidKinds := [.data, .listed, .data, .pinned], laidTests := true, laidLooks := .later }
def CheckMemoryUptoCardSaid : Prop := Claim7.holds Tryz.pinned (.plain (OpenSpec.upto checkMemorySpec)) checkMemoryUptoCard
end Rows
end Go.Proofs.YteccladehmaglaaGreatDoor
