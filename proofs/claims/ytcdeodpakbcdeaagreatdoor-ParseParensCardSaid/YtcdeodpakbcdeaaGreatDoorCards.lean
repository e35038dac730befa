/-
  DERIVED. GIVEN WITH THE SEED: THE CARDS: each row of YtcdeodpakbcdeaaGreatDoorRows.lean that lists a variable, with what it lists TIED to the program's text (the seventh form; the later family's looks); each row that meets fmt, with fmt's text TOLD by the authors' own Lean function (tested against real Go, not proved from fmt's source: count such statements apart). THE CARD IS WHAT COUNTS. Prove the row's statement (the work); the ties are given (YtcdeodpakbcdeaaGreatDoorTie.lean); close each card by the builder's one call (the guide's Derived/Test/ToyasCard.lean, 'card_holds'). Laid BY PROGRAM, IN A SANDBOX (cutbox-door.mjs). By AI agents, Wed Nov 11 2026. No macro, syntax, notation, axiom, sorry.
-/
import Derived.Test.YtcdeodpakbcdeaaGreatDoorRows
import GoSem.ClaimSeven
namespace Go.Proofs.YtcdeodpakbcdeaaGreatDoor
namespace Rows

/-- THE TIED CARD OF 'trestlelaw12.ParseTrees'. -/
def parseTreesCard : Claim7 := { stood := { row := parseTreesRow, standIns := [], harness := (true, "fdfd4965732f600096c61c9cc775202ecbf7cb49cc5f216f0302256a299577cb"), looks := true }, kinds := [], alts := [], laidByText := true, laidKinds := [.data, .data, .data, .data, .listed, .data, .pinned], laidTests := true, laidLooks := .later }
def ParseTreesCardSaid : Prop := Claim7.holds Tryz.pinned (.plain (OpenSpec.ofChange parseTreesSpec)) parseTreesCard

/-- THE TIED CARD OF 'trestlelaw12.ParseTexts'. -/
def parseTextsCard : Claim7 := { stood := { row := parseTextsRow, standIns := [], harness := (true, "fdfd4965732f600096c61c9cc775202ecbf7cb49cc5f216f0302256a299577cb"), looks := true }, kinds := [], alts := [], laidByText := true, laidKinds := [.data, .data, .data, .data, .listed, .data, .pinned], laidTests := true, laidLooks := .later }
def ParseTextsCardSaid : Prop := Claim7.holds Tryz.pinned (.plain (OpenSpec.ofChange parseTextsSpec)) parseTextsCard

/-- THE TIED CARD OF 'trestlelaw12.ParsePlaces'. -/
def parsePlacesCard : Claim7 := { stood := { row := parsePlacesRow, standIns := [], harness := (true, "fdfd4965732f600096c61c9cc775202ecbf7cb49cc5f216f0302256a299577cb"), looks := true }, kinds := [], alts := [], laidByText := true, laidKinds := [.data, .data, .data, .data, .listed, .data, .pinned], laidTests := true, laidLooks := .later }
def ParsePlacesCardSaid : Prop := Claim7.holds Tryz.pinned (.plain (OpenSpec.ofChange parsePlacesSpec)) parsePlacesCard

/-- THE TIED CARD OF 'trestlelaw12.ParseJoins'. -/
def parseJoinsCard : Claim7 := { stood := { row := parseJoinsRow, standIns := [], harness := (true, "fdfd4965732f600096c61c9cc775202ecbf7cb49cc5f216f0302256a299577cb"), looks := true }, kinds := [], alts := [], laidByText := true, laidKinds := [.data, .data, .data, .data, .listed, .data, .pinned], laidTests := true, laidLooks := .later }
def ParseJoinsCardSaid : Prop := Claim7.holds Tryz.pinned (.plain (OpenSpec.ofChange parseJoinsSpec)) parseJoinsCard

/-- THE TIED CARD OF 'trestlelaw12.ParseMemory'. -/
def parseMemoryCard : Claim7 := { stood := { row := parseMemoryRow, standIns := [], harness := (true, "fdfd4965732f600096c61c9cc775202ecbf7cb49cc5f216f0302256a299577cb"), looks := true }, kinds := [], alts := [], laidByText := true, laidKinds := [.data, .data, .data, .data, .listed, .data, .pinned], laidTests := true, laidLooks := .later }
def ParseMemoryCardSaid : Prop := Claim7.holds Tryz.pinned (.plain (OpenSpec.ofChange parseMemorySpec)) parseMemoryCard

/-- THE TIED CARD OF 'trestlelaw12.ParseParens'. -/
def parseParensCard : Claim7 := { stood := { row := parseParensRow, standIns := [], harness := (true, "fdfd4965732f600096c61c9cc775202ecbf7cb49cc5f216f0302256a299577cb"), looks := true }, kinds := [], alts := [], laidByText := true, laidKinds := [.data, .data, .data, .data, .listed, .data, .pinned], laidTests := true, laidLooks := .later }
def ParseParensCardSaid : Prop := Claim7.holds Tryz.pinned (.plain (OpenSpec.ofChange parseParensSpec)) parseParensCard

/-- THE TIED CARD OF 'trestlelaw12.ParseWraps'. -/
def parseWrapsCard : Claim7 := { stood := { row := parseWrapsRow, standIns := [], harness := (true, "fdfd4965732f600096c61c9cc775202ecbf7cb49cc5f216f0302256a299577cb"), looks := true }, kinds := [], alts := [], laidByText := true, laidKinds := [.data, .data, .data, .data, .listed, .data, .pinned], laidTests := true, laidLooks := .later }
def ParseWrapsCardSaid : Prop := Claim7.holds Tryz.pinned (.plain (OpenSpec.ofChange parseWrapsSpec)) parseWrapsCard

/-- THE SECOND FORM's CARD OF 'trestlelaw12.ParseTrees'. -/
def parseTreesUptoCard : Claim7 := { stood := { row := parseTreesUptoRow, standIns := [], harness := (true, "fdfd4965732f600096c61c9cc775202ecbf7cb49cc5f216f0302256a299577cb"), looks := true }, kinds := [], alts := [], laidByText := true, laidKinds := [.data, .data, .data, .data, .listed, .data, .pinned], laidTests := true, laidLooks := .later }
def ParseTreesUptoCardSaid : Prop := Claim7.holds Tryz.pinned (.plain (OpenSpec.upto parseTreesSpec)) parseTreesUptoCard

/-- THE SECOND FORM's CARD OF 'trestlelaw12.ParseTexts'. -/
def parseTextsUptoCard : Claim7 := { stood := { row := parseTextsUptoRow, standIns := [], harness := (true, "fdfd4965732f600096c61c9cc775202ecbf7cb49cc5f216f0302256a299577cb"), looks := true }, kinds := [], alts := [], laidByText := true, laidKinds := [.data, .data, .data, .data, .listed, .data, .pinned], laidTests := true, laidLooks := .later }
def ParseTextsUptoCardSaid : Prop := Claim7.holds Tryz.pinned (.plain (OpenSpec.upto parseTextsSpec)) parseTextsUptoCard

/-- THE SECOND FORM's CARD OF 'trestlelaw12.ParsePlaces'. -/
def parsePlacesUptoCard : Claim7 := { stood := { row := parsePlacesUptoRow, standIns := [], harness := (true, "fdfd4965732f600096c61c9cc775202ecbf7cb49cc5f216f0302256a299577cb"), looks := true }, kinds := [], alts := [], laidByText := true, laidKinds := [.data, .data, .data, .data, .listed, .data, .pinned], laidTests := true, laidLooks := .later }
def ParsePlacesUptoCardSaid : Prop := Claim7.holds Tryz.pinned (.plain (OpenSpec.upto parsePlacesSpec)) parsePlacesUptoCard

/-- THE SECOND FORM's CARD OF 'trestlelaw12.ParseJoins'. -/
def parseJoinsUptoCard : Claim7 := { stood := { row := parseJoinsUptoRow, standIns := [], harness := (true, "fdfd4965732f600096c61c9cc775202ecbf7cb49cc5f216f0302256a299577cb"), looks := true }, kinds := [], alts := [], laidByText := true, laidKinds := [.data, .data, .data, .data, .listed, .data, .pinned], laidTests := true, laidLooks := .later }
def ParseJoinsUptoCardSaid : Prop := Claim7.holds Tryz.pinned (.plain (OpenSpec.upto parseJoinsSpec)) parseJoinsUptoCard

/-- THE SECOND FORM's CARD OF 'trestlelaw12.ParseMemory'. -/
def parseMemoryUptoCard : Claim7 := { stood := { row := parseMemoryUptoRow, standIns := [], harness := (true, "fdfd4965732f600096c61c9cc775202ecbf7cb49cc5f216f0302256a299577cb"), looks := true }, kinds := [], alts := [], laidByText := true, laidKinds := [.data, .data, .data, .data, .listed, .data, .pinned], laidTests := true, laidLooks := .later }
def ParseMemoryUptoCardSaid : Prop := Claim7.holds Tryz.pinned (.plain (OpenSpec.upto parseMemorySpec)) parseMemoryUptoCard

/-- THE SECOND FORM's CARD OF 'trestlelaw12.ParseParens'. -/
def parseParensUptoCard : Claim7 := { stood := { row := parseParensUptoRow, standIns := [], harness := (true, "fdfd4965732f600096c61c9cc775202ecbf7cb49cc5f216f0302256a299577cb"), looks := true }, kinds := [], alts := [], laidByText := true, laidKinds := [.data, .data, .data, .data, .listed, .data, .pinned], laidTests := true, laidLooks := .later }
def ParseParensUptoCardSaid : Prop := Claim7.holds Tryz.pinned (.plain (OpenSpec.upto parseParensSpec)) parseParensUptoCard

/-- THE SECOND FORM's CARD OF 'trestlelaw12.ParseWraps'. -/
def parseWrapsUptoCard : Claim7 := { stood := { row := parseWrapsUptoRow, standIns := [], harness := (true, "fdfd4965732f600096c61c9cc775202ecbf7cb49cc5f216f0302256a299577cb"), looks := true }, kinds := [], alts := [], laidByText := true, laidKinds := [.data, .data, .data, .data, .listed, .data, .pinned], laidTests := true, laidLooks := .later }
def ParseWrapsUptoCardSaid : Prop := Claim7.holds Tryz.pinned (.plain (OpenSpec.upto parseWrapsSpec)) parseWrapsUptoCard
end Rows
end Go.Proofs.YtcdeodpakbcdeaaGreatDoor
