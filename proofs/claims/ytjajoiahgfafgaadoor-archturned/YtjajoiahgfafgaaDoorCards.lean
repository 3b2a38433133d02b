/-
  DERIVED. GIVEN WITH THE SEED: THE CARDS: each row of YtjajoiahgfafgaaDoorRows.lean that lists a variable, with what it lists TIED to the program's text (the seventh form; the later family's looks); each row that meets fmt, with fmt's text TOLD by the authors' own Lean function (tested against real Go, not proved from fmt's source: count such statements apart). THE CARD IS WHAT COUNTS. Prove the row's statement (the work); the ties are given (YtjajoiahgfafgaaDoorTie.lean); close each card by the builder's one call (the guide's Derived/Test/ToyasCard.lean, 'card_holds'). Laid BY PROGRAM, IN A SANDBOX (cutbox-door.mjs). By AI agents, Wed Nov 11 2026. No macro, syntax, notation, axiom, sorry.
-/
import Derived.Test.YtjajoiahgfafgaaDoorRows
import GoSem.ClaimSeven
namespace Go.Proofs.YtjajoiahgfafgaaDoor
namespace Rows

/-- THE TIED CARD OF 'hawserlaw09.ArchTurned'. -/
def archTurnedCard : Claim7 := { stood := { row := archTurnedRow, standIns := [], harness := (true, "60a4ec2f889de91b324bc22f60be022090b5e5fed065cebeadfb341371b561a6"), looks := false }, kinds := [], alts := [], laidByText := true, laidKinds := [.data, .pinned], laidTests := true, laidLooks := .later }
def ArchTurnedCardSaid : Prop := Claim7.holds Tryd.pinned (.plain (OpenSpec.ofChange archTurnedSpec)) archTurnedCard

/-- THE TIED CARD OF 'hawserlaw09.ArchMatches'. -/
def archMatchesCard : Claim7 := { stood := { row := archMatchesRow, standIns := [], harness := (true, "60a4ec2f889de91b324bc22f60be022090b5e5fed065cebeadfb341371b561a6"), looks := false }, kinds := [], alts := [], laidByText := true, laidKinds := [.data, .pinned], laidTests := true, laidLooks := .later }
def ArchMatchesCardSaid : Prop := Claim7.holds Tryd.pinned (.plain (OpenSpec.ofChange archMatchesSpec)) archMatchesCard

/-- THE SECOND FORM's CARD OF 'hawserlaw09.ArchTurned'. -/
def archTurnedUptoCard : Claim7 := { stood := { row := archTurnedUptoRow, standIns := [], harness := (true, "60a4ec2f889de91b324bc22f60be022090b5e5fed065cebeadfb341371b561a6"), looks := false }, kinds := [], alts := [], laidByText := true, laidKinds := [.data, .pinned], laidTests := true, laidLooks := .later }
def ArchTurnedUptoCardSaid : Prop := Claim7.holds Tryd.pinned (.plain (OpenSpec.upto archTurnedSpec)) archTurnedUptoCard

/-- THE SECOND FORM's CARD OF 'hawserlaw09.ArchMatches'. -/
def archMatchesUptoCard : Claim7 := { stood := { row := archMatchesUptoRow, standIns := [], harness := (true, "60a4ec2f889de91b324bc22f60be022090b5e5fed065cebeadfb341371b561a6"), looks := false }, kinds := [], alts := [], laidByText := true, laidKinds := [.data, .pinned], laidTests := true, laidLooks := .later }
def ArchMatchesUptoCardSaid : Prop := Claim7.holds Tryd.pinned (.plain (OpenSpec.upto archMatchesSpec)) archMatchesUptoCard
end Rows
end Go.Proofs.YtjajoiahgfafgaaDoor
