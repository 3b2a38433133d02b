/-
  DERIVED. GIVEN WITH THE SEED: THE CARDS: each row of YtoifnnhbejofjaaDoorRows.lean that lists a variable, with what it lists TIED to the program's text (the seventh form; the later family's looks); each row that meets fmt, with fmt's text TOLD by the authors' own Lean function (tested against real Go, not proved from fmt's source: count such statements apart). THE CARD IS WHAT COUNTS. Prove the row's statement (the work); the ties are given (YtoifnnhbejofjaaDoorTie.lean); close each card by the builder's one call (the guide's Derived/Test/ToyasCard.lean, 'card_holds'). Laid BY PROGRAM, IN A SANDBOX (cutbox-door.mjs). By AI agents, Wed Nov 11 2026. No macro, syntax, notation, axiom, sorry.
-/
import Derived.Test.YtoifnnhbejofjaaDoorRows
import GoSem.ClaimSeven
namespace Go.Proofs.YtoifnnhbejofjaaDoor
namespace Rows

/-- THE TIED CARD OF 'hawserlaw08.ProfReads'. -/
def profReadsCard : Claim7 := { stood := { row := profReadsRow, standIns := [], harness := (true, "740df7586fa1bc72791b8c4d5866fa0e8e77c5da018b64ee13f8228749c00a5c"), looks := false }, kinds := [], alts := [], laidByText := true, laidKinds := [.data, .data, .data, .data, .pinned], laidTests := true, laidLooks := .later }
def ProfReadsCardSaid : Prop := Claim7.holds Tryd.pinned (.plain (OpenSpec.ofChange profReadsSpec)) profReadsCard

/-- THE TIED CARD OF 'hawserlaw08.ProfIncludes'. -/
def profIncludesCard : Claim7 := { stood := { row := profIncludesRow, standIns := [], harness := (true, "740df7586fa1bc72791b8c4d5866fa0e8e77c5da018b64ee13f8228749c00a5c"), looks := false }, kinds := [], alts := [], laidByText := true, laidKinds := [.data, .data, .data, .data, .pinned], laidTests := true, laidLooks := .later }
def ProfIncludesCardSaid : Prop := Claim7.holds Tryd.pinned (.plain (OpenSpec.ofChange profIncludesSpec)) profIncludesCard

/-- THE TIED CARD OF 'hawserlaw08.ProfWrites'. -/
def profWritesCard : Claim7 := { stood := { row := profWritesRow, standIns := [], harness := (true, "740df7586fa1bc72791b8c4d5866fa0e8e77c5da018b64ee13f8228749c00a5c"), looks := false }, kinds := [], alts := [], laidByText := true, laidKinds := [.data, .data, .data, .data, .pinned], laidTests := true, laidLooks := .later }
def ProfWritesCardSaid : Prop := Claim7.holds Tryd.pinned (.plain (OpenSpec.ofChange profWritesSpec)) profWritesCard

/-- THE SECOND FORM's CARD OF 'hawserlaw08.ProfReads'. -/
def profReadsUptoCard : Claim7 := { stood := { row := profReadsUptoRow, standIns := [], harness := (true, "740df7586fa1bc72791b8c4d5866fa0e8e77c5da018b64ee13f8228749c00a5c"), looks := false }, kinds := [], alts := [], laidByText := true, laidKinds := [.data, .data, .data, .data, .pinned], laidTests := true, laidLooks := .later }
def ProfReadsUptoCardSaid : Prop := Claim7.holds Tryd.pinned (.plain (OpenSpec.upto profReadsSpec)) profReadsUptoCard

/-- THE SECOND FORM's CARD OF 'hawserlaw08.ProfIncludes'. -/
def profIncludesUptoCard : Claim7 := { stood := { row := profIncludesUptoRow, standIns := [], harness := (true, "740df7586fa1bc72791b8c4d5866fa0e8e77c5da018b64ee13f8228749c00a5c"), looks := false }, kinds := [], alts := [], laidByText := true, laidKinds := [.data, .data, .data, .data, .pinned], laidTests := true, laidLooks := .later }
def ProfIncludesUptoCardSaid : Prop := Claim7.holds Tryd.pinned (.plain (OpenSpec.upto profIncludesSpec)) profIncludesUptoCard

/-- THE SECOND FORM's CARD OF 'hawserlaw08.ProfWrites'. -/
def profWritesUptoCard : Claim7 := { stood := { row := profWritesUptoRow, standIns := [], harness := (true, "740df7586fa1bc72791b8c4d5866fa0e8e77c5da018b64ee13f8228749c00a5c"), looks := false }, kinds := [], alts := [], laidByText := true, laidKinds := [.data, .data, .data, .data, .pinned], laidTests := true, laidLooks := .later }
def ProfWritesUptoCardSaid : Prop := Claim7.holds Tryd.pinned (.plain (OpenSpec.upto profWritesSpec)) profWritesUptoCard
end Rows
end Go.Proofs.YtoifnnhbejofjaaDoor
