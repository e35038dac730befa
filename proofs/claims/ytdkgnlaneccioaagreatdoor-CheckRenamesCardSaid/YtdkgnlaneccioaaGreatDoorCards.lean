/-
  DERIVED. GIVEN WITH THE SEED: THE CARDS: each row of YtdkgnlaneccioaaGreatDoorRows.lean that lists a variable, with what it lists TIED to the program's text (the seventh form; the later family's looks); each row that meets fmt, with fmt's text TOLD by the authors' own Lean function (tested against real Go, not proved from fmt's source: count such statements apart). THE CARD IS WHAT COUNTS. Prove the row's statement (the work); the ties are given (YtdkgnlaneccioaaGreatDoorTie.lean); close each card by the builder's one call (the guide's Derived/Test/ToyasCard.lean, 'card_holds'). Laid BY PROGRAM, IN A SANDBOX (cutbox-door.mjs). By AI agents, Wed Nov 11 2026. No macro, syntax, notation, axiom, sorry.
-/
import Derived.Test.YtdkgnlaneccioaaGreatDoorRows
import GoSem.ClaimSeven
namespace Go.Proofs.YtdkgnlaneccioaaGreatDoor
namespace Rows

/-- THE TIED CARD OF 'trestlelaw13.CheckNames'. -/
def checkNamesCard : Claim7 := { stood := { row := checkNamesRow, standIns := [], harness := (true, "031fb6bb2d36cf495c7aa078491a8f0ecbb41ab8d26febdae55591e9648e6186"), looks := true }, kinds := [], alts := [], laidByText := true, laidKinds := [.data, .listed, .data, .pinned], laidTests := true, laidLooks := .later }
def CheckNamesCardSaid : Prop := Claim7.holds Tryz.pinned (.plain (OpenSpec.ofChange checkNamesSpec)) checkNamesCard

/-- THE TIED CARD OF 'trestlelaw13.CheckStages'. -/
def checkStagesCard : Claim7 := { stood := { row := checkStagesRow, standIns := [], harness := (true, "031fb6bb2d36cf495c7aa078491a8f0ecbb41ab8d26febdae55591e9648e6186"), looks := true }, kinds := [], alts := [], laidByText := true, laidKinds := [.data, .listed, .data, .pinned], laidTests := true, laidLooks := .later }
def CheckStagesCardSaid : Prop := Claim7.holds Tryz.pinned (.plain (OpenSpec.ofChange checkStagesSpec)) checkStagesCard

/-- THE TIED CARD OF 'trestlelaw13.CheckRenames'. -/
def checkRenamesCard : Claim7 := { stood := { row := checkRenamesRow, standIns := [], harness := (true, "031fb6bb2d36cf495c7aa078491a8f0ecbb41ab8d26febdae55591e9648e6186"), looks := true }, kinds := [], alts := [], laidByText := true, laidKinds := [.data, .listed, .data, .pinned], laidTests := true, laidLooks := .later }
def CheckRenamesCardSaid : Prop := Claim7.holds Tryz.pinned (.plain (OpenSpec.ofChange checkRenamesSpec)) checkRenamesCard

/-- THE TIED CARD OF 'trestlelaw13.CheckLocals'. -/
def checkLocalsCard : Claim7 := { stood := { row := checkLocalsRow, standIns := [], harness := (true, "031fb6bb2d36cf495c7aa078491a8f0ecbb41ab8d26febdae55591e9648e6186"), looks := true }, kinds := [], alts := [], laidByText := true, laidKinds := [.data, .listed, .data, .pinned], laidTests := true, laidLooks := .later }
def CheckLocalsCardSaid : Prop := Claim7.holds Tryz.pinned (.plain (OpenSpec.ofChange checkLocalsSpec)) checkLocalsCard

/-- THE TIED CARD OF 'trestlelaw13.CheckConsts'. -/
def checkConstsCard : Claim7 := { stood := { row := checkConstsRow, standIns := [], harness := (true, "031fb6bb2d36cf495c7aa078491a8f0ecbb41ab8d26febdae55591e9648e6186"), looks := true }, kinds := [], alts := [], laidByText := true, laidKinds := [.data, .listed, .data, .pinned], laidTests := true, laidLooks := .later }
def CheckConstsCardSaid : Prop := Claim7.holds Tryz.pinned (.plain (OpenSpec.ofChange checkConstsSpec)) checkConstsCard

/-- THE SECOND FORM's CARD OF 'trestlelaw13.CheckNames'. -/
def checkNamesUptoCard : Claim7 := { stood := { row := checkNamesUptoRow, standIns := [], harness := (true, "031fb6bb2d36cf495c7aa078491a8f0ecbb41ab8d26febdae55591e9648e6186"), looks := true }, kinds := [], alts := [], laidByText := true, laidKinds := [.data, .listed, .data, .pinned], laidTests := true, laidLooks := .later }
def CheckNamesUptoCardSaid : Prop := Claim7.holds Tryz.pinned (.plain (OpenSpec.upto checkNamesSpec)) checkNamesUptoCard

/-- THE SECOND FORM's CARD OF 'trestlelaw13.CheckStages'. -/
def checkStagesUptoCard : Claim7 := { stood := { row := checkStagesUptoRow, standIns := [], harness := (true, "031fb6bb2d36cf495c7aa078491a8f0ecbb41ab8d26febdae55591e9648e6186"), looks := true }, kinds := [], alts := [], laidByText := true, laidKinds := [.data, .listed, .data, .pinned], laidTests := true, laidLooks := .later }
def CheckStagesUptoCardSaid : Prop := Claim7.holds Tryz.pinned (.plain (OpenSpec.upto checkStagesSpec)) checkStagesUptoCard

/-- THE SECOND FORM's CARD OF 'trestlelaw13.CheckRenames'. -/
def checkRenamesUptoCard : Claim7 := { stood := { row := checkRenamesUptoRow, standIns := [], harness := (true, "031fb6bb2d36cf495c7aa078491a8f0ecbb41ab8d26febdae55591e9648e6186"), looks := true }, kinds := [], alts := [], laidByText := true, laidKinds := [.data, .listed, .data, .pinned], laidTests := true, laidLooks := .later }
def CheckRenamesUptoCardSaid : Prop := Claim7.holds Tryz.pinned (.plain (OpenSpec.upto checkRenamesSpec)) checkRenamesUptoCard

/-- THE SECOND FORM's CARD OF 'trestlelaw13.CheckLocals'. -/
def checkLocalsUptoCard : Claim7 := { stood := { row := checkLocalsUptoRow, standIns := [], harness := (true, "031fb6bb2d36cf495c7aa078491a8f0ecbb41ab8d26febdae55591e9648e6186"), looks := true }, kinds := [], alts := [], laidByText := true, laidKinds := [.data, .listed, .data, .pinned], laidTests := true, laidLooks := .later }
def CheckLocalsUptoCardSaid : Prop := Claim7.holds Tryz.pinned (.plain (OpenSpec.upto checkLocalsSpec)) checkLocalsUptoCard

/-- THE SECOND FORM's CARD OF 'trestlelaw13.CheckConsts'. -/
def checkConstsUptoCard : Claim7 := { stood := { row := checkConstsUptoRow, standIns := [], harness := (true, "031fb6bb2d36cf495c7aa078491a8f0ecbb41ab8d26febdae55591e9648e6186"), looks := true }, kinds := [], alts := [], laidByText := true, laidKinds := [.data, .listed, .data, .pinned], laidTests := true, laidLooks := .later }
def CheckConstsUptoCardSaid : Prop := Claim7.holds Tryz.pinned (.plain (OpenSpec.upto checkConstsSpec)) checkConstsUptoCard
end Rows
end Go.Proofs.YtdkgnlaneccioaaGreatDoor
