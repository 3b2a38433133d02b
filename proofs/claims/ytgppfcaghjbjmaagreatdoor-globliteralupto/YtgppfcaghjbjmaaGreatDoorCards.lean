/-
  DERIVED. GIVEN WITH THE SEED: THE CARDS: each row of YtgppfcaghjbjmaaGreatDoorRows.lean that lists a variable, with what it lists TIED to the program's text (the seventh form; the later family's looks); each row that meets fmt, with fmt's text TOLD by the authors' own Lean function (tested against real Go, not proved from fmt's source: count such statements apart). THE CARD IS WHAT COUNTS. Prove the row's statement (the work); the ties are given (YtgppfcaghjbjmaaGreatDoorTie.lean); close each card by the builder's one call (the guide's Derived/Test/ToyasCard.lean, 'card_holds'). Laid BY PROGRAM, IN A SANDBOX (cutbox-door.mjs). By AI agents, Wed Nov 11 2026. No macro, syntax, notation, axiom, sorry.
-/
import Derived.Test.YtgppfcaghjbjmaaGreatDoorRows
import GoSem.ClaimSeven
namespace Go.Proofs.YtgppfcaghjbjmaaGreatDoor
namespace Rows

/-- THE TIED CARD OF 'hawserlaw02.GlobChecks'. -/
def globChecksCard : Claim7 := { stood := { row := globChecksRow, standIns := [], harness := (true, "71b5783834c537fc5bafb3d1dc10f70110e008e00c28774a7ee5d62a94c5f816"), looks := true }, kinds := [], alts := [], laidByText := true, laidKinds := [.data, .pinned], laidTests := true, laidLooks := .later }
def GlobChecksCardSaid : Prop := Claim7.holds Tryz.pinned (.plain (OpenSpec.ofChange globChecksSpec)) globChecksCard

/-- THE TIED CARD OF 'hawserlaw02.GlobLiteral'. -/
def globLiteralCard : Claim7 := { stood := { row := globLiteralRow, standIns := [], harness := (true, "71b5783834c537fc5bafb3d1dc10f70110e008e00c28774a7ee5d62a94c5f816"), looks := true }, kinds := [], alts := [], laidByText := true, laidKinds := [.data, .pinned], laidTests := true, laidLooks := .later }
def GlobLiteralCardSaid : Prop := Claim7.holds Tryz.pinned (.plain (OpenSpec.ofChange globLiteralSpec)) globLiteralCard

/-- THE SECOND FORM's CARD OF 'hawserlaw02.GlobChecks'. -/
def globChecksUptoCard : Claim7 := { stood := { row := globChecksUptoRow, standIns := [], harness := (true, "71b5783834c537fc5bafb3d1dc10f70110e008e00c28774a7ee5d62a94c5f816"), looks := true }, kinds := [], alts := [], laidByText := true, laidKinds := [.data, .pinned], laidTests := true, laidLooks := .later }
def GlobChecksUptoCardSaid : Prop := Claim7.holds Tryz.pinned (.plain (OpenSpec.upto globChecksSpec)) globChecksUptoCard

/-- THE SECOND FORM's CARD OF 'hawserlaw02.GlobLiteral'. -/
def globLiteralUptoCard : Claim7 := { stood := { row := globLiteralUptoRow, standIns := [], harness := (true, "71b5783834c537fc5bafb3d1dc10f70110e008e00c28774a7ee5d62a94c5f816"), looks := true }, kinds := [], alts := [], laidByText := true, laidKinds := [.data, .pinned], laidTests := true, laidLooks := .later }
def GlobLiteralUptoCardSaid : Prop := Claim7.holds Tryz.pinned (.plain (OpenSpec.upto globLiteralSpec)) globLiteralUptoCard
end Rows
end Go.Proofs.YtgppfcaghjbjmaaGreatDoor
