/-
  DERIVED. GIVEN WITH THE SEED: THE CARDS: each row of YtoaplbeojagjcaaDoorRows.lean that lists a variable, with what it lists TIED to the program's text (the seventh form; the later family's looks); each row that meets fmt, with fmt's text TOLD by the authors' own Lean function (tested against real Go, not proved from fmt's source: count such statements apart). THE CARD IS WHAT COUNTS. Prove the row's statement (the work); the ties are given (YtoaplbeojagjcaaDoorTie.lean); close each card by the builder's one call (the guide's Derived/Test/ToyasCard.lean, 'card_holds'). Laid BY PROGRAM, IN A SANDBOX (cutbox-door.mjs). By AI agents, Wed Nov 11 2026. No macro, syntax, notation, axiom, sorry.
-/
import Derived.Test.YtoaplbeojagjcaaDoorRows
import GoSem.ClaimSeven
namespace Go.Proofs.YtoaplbeojagjcaaDoor
namespace Rows

/-- THE TIED CARD OF 'trestlelaw11.LexQuotes'. -/
def lexQuotesCard : Claim7 := { stood := { row := lexQuotesRow, standIns := [], harness := (true, "bc6a28fe4aca36bdb4890c496b45aa8065e06210c4ffaa94956ecb8a98d54b8a"), looks := true }, kinds := [], alts := [], laidByText := true, laidKinds := [.data, .data, .data, .data, .listed, .data, .pinned], laidTests := true, laidLooks := .later }
def LexQuotesCardSaid : Prop := Claim7.holds Tryd.pinned (.plain (OpenSpec.ofChange lexQuotesSpec)) lexQuotesCard

/-- THE TIED CARD OF 'trestlelaw11.LexPlain'. -/
def lexPlainCard : Claim7 := { stood := { row := lexPlainRow, standIns := [], harness := (true, "bc6a28fe4aca36bdb4890c496b45aa8065e06210c4ffaa94956ecb8a98d54b8a"), looks := true }, kinds := [], alts := [], laidByText := true, laidKinds := [.data, .data, .data, .data, .listed, .data, .pinned], laidTests := true, laidLooks := .later }
def LexPlainCardSaid : Prop := Claim7.holds Tryd.pinned (.plain (OpenSpec.ofChange lexPlainSpec)) lexPlainCard

/-- THE SECOND FORM's CARD OF 'trestlelaw11.LexQuotes'. -/
def lexQuotesUptoCard : Claim7 := { stood := { row := lexQuotesUptoRow, standIns := [], harness := (true, "bc6a28fe4aca36bdb4890c496b45aa8065e06210c4ffaa94956ecb8a98d54b8a"), looks := true }, kinds := [], alts := [], laidByText := true, laidKinds := [.data, .data, .data, .data, .listed, .data, .pinned], laidTests := true, laidLooks := .later }
def LexQuotesUptoCardSaid : Prop := Claim7.holds Tryd.pinned (.plain (OpenSpec.upto lexQuotesSpec)) lexQuotesUptoCard

/-- THE SECOND FORM's CARD OF 'trestlelaw11.LexPlain'. -/
def lexPlainUptoCard : Claim7 := { stood := { row := lexPlainUptoRow, standIns := [], harness := (true, "bc6a28fe4aca36bdb4890c496b45aa8065e06210c4ffaa94956ecb8a98d54b8a"), looks := true }, kinds := [], alts := [], laidByText := true, laidKinds := [.data, .data, .data, .data, .listed, .data, .pinned], laidTests := true, laidLooks := .later }
def LexPlainUptoCardSaid : Prop := Claim7.holds Tryd.pinned (.plain (OpenSpec.upto lexPlainSpec)) lexPlainUptoCard
end Rows
end Go.Proofs.YtoaplbeojagjcaaDoor
