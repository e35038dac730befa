/-
  DERIVED. GIVEN WITH THE SEED: THE CARDS: each row of YtkdjiehclahliaaGreatDoorRows.lean that lists a variable, with what it lists TIED to the program's text (the seventh form; the later family's looks); each row that meets fmt, with fmt's text TOLD by the authors' own Lean function (tested against real Go, not proved from fmt's source: count such statements apart). THE CARD IS WHAT COUNTS. Prove the row's statement (the work); the ties are given (YtkdjiehclahliaaGreatDoorTie.lean); close each card by the builder's one call (the guide's Derived/Test/ToyasCard.lean, 'card_holds'). Laid BY PROGRAM, IN A SANDBOX (cutbox-door.mjs). By AI agents, Wed Nov 11 2026. No macro, syntax, notation, axiom, sorry.
-/
import Derived.Test.YtkdjiehclahliaaGreatDoorRows
import GoSem.ClaimSeven
namespace Go.Proofs.YtkdjiehclahliaaGreatDoor
namespace Rows

/-- THE TIED CARD OF 'trestlelaw14.GenSound'. -/
def genSoundCard : Claim7 := { stood := { row := genSoundRow, standIns := [], harness := (true, "83f476e6272684564bedc5460a1d4f731423c6ef5f97305fe92b89f0c919c236"), looks := true }, kinds := [], alts := [], laidByText := true, laidKinds := [.data, .listed, .data, .pinned], laidTests := true, laidLooks := .later }
def GenSoundCardSaid : Prop := Claim7.holds Tryz.pinned (.plain (OpenSpec.ofChange genSoundSpec)) genSoundCard

/-- THE TIED CARD OF 'trestlelaw14.GenBalance'. -/
def genBalanceCard : Claim7 := { stood := { row := genBalanceRow, standIns := [], harness := (true, "83f476e6272684564bedc5460a1d4f731423c6ef5f97305fe92b89f0c919c236"), looks := true }, kinds := [], alts := [], laidByText := true, laidKinds := [.data, .listed, .data, .pinned], laidTests := true, laidLooks := .later }
def GenBalanceCardSaid : Prop := Claim7.holds Tryz.pinned (.plain (OpenSpec.ofChange genBalanceSpec)) genBalanceCard

/-- THE TIED CARD OF 'trestlelaw14.GenBlocks'. -/
def genBlocksCard : Claim7 := { stood := { row := genBlocksRow, standIns := [], harness := (true, "83f476e6272684564bedc5460a1d4f731423c6ef5f97305fe92b89f0c919c236"), looks := true }, kinds := [], alts := [], laidByText := true, laidKinds := [.data, .listed, .data, .pinned], laidTests := true, laidLooks := .later }
def GenBlocksCardSaid : Prop := Claim7.holds Tryz.pinned (.plain (OpenSpec.ofChange genBlocksSpec)) genBlocksCard

/-- THE TIED CARD OF 'trestlelaw14.GenBatches'. -/
def genBatchesCard : Claim7 := { stood := { row := genBatchesRow, standIns := [], harness := (true, "83f476e6272684564bedc5460a1d4f731423c6ef5f97305fe92b89f0c919c236"), looks := true }, kinds := [], alts := [], laidByText := true, laidKinds := [.data, .listed, .data, .pinned], laidTests := true, laidLooks := .later }
def GenBatchesCardSaid : Prop := Claim7.holds Tryz.pinned (.plain (OpenSpec.ofChange genBatchesSpec)) genBatchesCard

/-- THE SECOND FORM's CARD OF 'trestlelaw14.GenSound'. -/
def genSoundUptoCard : Claim7 := { stood := { row := genSoundUptoRow, standIns := [], harness := (true, "83f476e6272684564bedc5460a1d4f731423c6ef5f97305fe92b89f0c919c236"), looks := true }, kinds := [], alts := [], laidByText := true, laidKinds := [.data, .listed, .data, .pinned], laidTests := true, laidLooks := .later }
def GenSoundUptoCardSaid : Prop := Claim7.holds Tryz.pinned (.plain (OpenSpec.upto genSoundSpec)) genSoundUptoCard

/-- THE SECOND FORM's CARD OF 'trestlelaw14.GenBalance'. -/
def genBalanceUptoCard : Claim7 := { stood := { row := genBalanceUptoRow, standIns := [], harness := (true, "83f476e6272684564bedc5460a1d4f731423c6ef5f97305fe92b89f0c919c236"), looks := true }, kinds := [], alts := [], laidByText := true, laidKinds := [.data, .listed, .data, .pinned], laidTests := true, laidLooks := .later }
def GenBalanceUptoCardSaid : Prop := Claim7.holds Tryz.pinned (.plain (OpenSpec.upto genBalanceSpec)) genBalanceUptoCard

/-- THE SECOND FORM's CARD OF 'trestlelaw14.GenBlocks'. -/
def genBlocksUptoCard : Claim7 := { stood := { row := genBlocksUptoRow, standIns := [], harness := (true, "83f476e6272684564bedc5460a1d4f731423c6ef5f97305fe92b89f0c919c236"), looks := true }, kinds := [], alts := [], laidByText := true, laidKinds := [.data, .listed, .data, .pinned], laidTests := true, laidLooks := .later }
def GenBlocksUptoCardSaid : Prop := Claim7.holds Tryz.pinned (.plain (OpenSpec.upto genBlocksSpec)) genBlocksUptoCard

/-- THE SECOND FORM's CARD OF 'trestlelaw14.GenBatches'. -/
def genBatchesUptoCard : Claim7 := { stood := { row := genBatchesUptoRow, standIns := [], harness := (true, "83f476e6272684564bedc5460a1d4f731423c6ef5f97305fe92b89f0c919c236"), looks := true }, kinds := [], alts := [], laidByText := true, laidKinds := [.data, .listed, .data, .pinned], laidTests := true, laidLooks := .later }
def GenBatchesUptoCardSaid : Prop := Claim7.holds Tryz.pinned (.plain (OpenSpec.upto genBatchesSpec)) genBatchesUptoCard
end Rows
end Go.Proofs.YtkdjiehclahliaaGreatDoor
