/-
  DERIVED. GIVEN WITH THE SEED: THE CARDS: each row of YtjhjepkmcbjgoaaDoorRows.lean that lists a variable, with what it lists TIED to the program's text (the seventh form; the later family's looks); each row that meets fmt, with fmt's text TOLD by the authors' own Lean function (tested against real Go, not proved from fmt's source: count such statements apart). THE CARD IS WHAT COUNTS. Prove the row's statement (the work); the ties are given (YtjhjepkmcbjgoaaDoorTie.lean); close each card by the builder's one call (the guide's Derived/Test/ToyasCard.lean, 'card_holds'). Laid BY PROGRAM, IN A SANDBOX (cutbox-door.mjs). By AI agents, Wed Nov 11 2026. No macro, syntax, notation, axiom, sorry.
-/
import Derived.Test.YtjhjepkmcbjgoaaDoorRows
import GoSem.ClaimSeven
namespace Go.Proofs.YtjhjepkmcbjgoaaDoor
namespace Rows

/-- THE TIED CARD OF 'hawserlaw13.PlanMakes'. -/
def planMakesCard : Claim7 := { stood := { row := planMakesRow, standIns := [], harness := (true, "c1ff6b6045f98675e22822c0e3e1c2420183a566121e662e5d3fdeb69d6e0a69"), looks := false }, kinds := [], alts := [], laidByText := true, laidKinds := [.data, .pinned], laidTests := true, laidLooks := .later }
def PlanMakesCardSaid : Prop := Claim7.holds Tryd.pinned (.plain (OpenSpec.ofChange planMakesSpec)) planMakesCard

/-- THE TIED CARD OF 'hawserlaw13.PlanNothing'. -/
def planNothingCard : Claim7 := { stood := { row := planNothingRow, standIns := [], harness := (true, "c1ff6b6045f98675e22822c0e3e1c2420183a566121e662e5d3fdeb69d6e0a69"), looks := false }, kinds := [], alts := [], laidByText := true, laidKinds := [.data, .pinned], laidTests := true, laidLooks := .later }
def PlanNothingCardSaid : Prop := Claim7.holds Tryd.pinned (.plain (OpenSpec.ofChange planNothingSpec)) planNothingCard

/-- THE TIED CARD OF 'hawserlaw13.PlanChoices'. -/
def planChoicesCard : Claim7 := { stood := { row := planChoicesRow, standIns := [], harness := (true, "c1ff6b6045f98675e22822c0e3e1c2420183a566121e662e5d3fdeb69d6e0a69"), looks := false }, kinds := [], alts := [], laidByText := true, laidKinds := [.data, .pinned], laidTests := true, laidLooks := .later }
def PlanChoicesCardSaid : Prop := Claim7.holds Tryd.pinned (.plain (OpenSpec.ofChange planChoicesSpec)) planChoicesCard

/-- THE TIED CARD OF 'hawserlaw13.PlanWays'. -/
def planWaysCard : Claim7 := { stood := { row := planWaysRow, standIns := [], harness := (true, "c1ff6b6045f98675e22822c0e3e1c2420183a566121e662e5d3fdeb69d6e0a69"), looks := false }, kinds := [], alts := [], laidByText := true, laidKinds := [.data, .pinned], laidTests := true, laidLooks := .later }
def PlanWaysCardSaid : Prop := Claim7.holds Tryd.pinned (.plain (OpenSpec.ofChange planWaysSpec)) planWaysCard

/-- THE TIED CARD OF 'hawserlaw13.PlanMore'. -/
def planMoreCard : Claim7 := { stood := { row := planMoreRow, standIns := [], harness := (true, "c1ff6b6045f98675e22822c0e3e1c2420183a566121e662e5d3fdeb69d6e0a69"), looks := false }, kinds := [], alts := [], laidByText := true, laidKinds := [.data, .pinned], laidTests := true, laidLooks := .later }
def PlanMoreCardSaid : Prop := Claim7.holds Tryd.pinned (.plain (OpenSpec.ofChange planMoreSpec)) planMoreCard

/-- THE SECOND FORM's CARD OF 'hawserlaw13.PlanMakes'. -/
def planMakesUptoCard : Claim7 := { stood := { row := planMakesUptoRow, standIns := [], harness := (true, "c1ff6b6045f98675e22822c0e3e1c2420183a566121e662e5d3fdeb69d6e0a69"), looks := false }, kinds := [], alts := [], laidByText := true, laidKinds := [.data, .pinned], laidTests := true, laidLooks := .later }
def PlanMakesUptoCardSaid : Prop := Claim7.holds Tryd.pinned (.plain (OpenSpec.upto planMakesSpec)) planMakesUptoCard

/-- THE SECOND FORM's CARD OF 'hawserlaw13.PlanNothing'. -/
def planNothingUptoCard : Claim7 := { stood := { row := planNothingUptoRow, standIns := [], harness := (true, "c1ff6b6045f98675e22822c0e3e1c2420183a566121e662e5d3fdeb69d6e0a69"), looks := false }, kinds := [], alts := [], laidByText := true, laidKinds := [.data, .pinned], laidTests := true, laidLooks := .later }
def PlanNothingUptoCardSaid : Prop := Claim7.holds Tryd.pinned (.plain (OpenSpec.upto planNothingSpec)) planNothingUptoCard

/-- THE SECOND FORM's CARD OF 'hawserlaw13.PlanChoices'. -/
def planChoicesUptoCard : Claim7 := { stood := { row := planChoicesUptoRow, standIns := [], harness := (true, "c1ff6b6045f98675e22822c0e3e1c2420183a566121e662e5d3fdeb69d6e0a69"), looks := false }, kinds := [], alts := [], laidByText := true, laidKinds := [.data, .pinned], laidTests := true, laidLooks := .later }
def PlanChoicesUptoCardSaid : Prop := Claim7.holds Tryd.pinned (.plain (OpenSpec.upto planChoicesSpec)) planChoicesUptoCard

/-- THE SECOND FORM's CARD OF 'hawserlaw13.PlanWays'. -/
def planWaysUptoCard : Claim7 := { stood := { row := planWaysUptoRow, standIns := [], harness := (true, "c1ff6b6045f98675e22822c0e3e1c2420183a566121e662e5d3fdeb69d6e0a69"), looks := false }, kinds := [], alts := [], laidByText := true, laidKinds := [.data, .pinned], laidTests := true, laidLooks := .later }
def PlanWaysUptoCardSaid : Prop := Claim7.holds Tryd.pinned (.plain (OpenSpec.upto planWaysSpec)) planWaysUptoCard

/-- THE SECOND FORM's CARD OF 'hawserlaw13.PlanMore'. -/
def planMoreUptoCard : Claim7 := { stood := { row := planMoreUptoRow, standIns := [], harness := (true, "c1ff6b6045f98675e22822c0e3e1c2420183a566121e662e5d3fdeb69d6e0a69"), looks := false }, kinds := [], alts := [], laidByText := true, laidKinds := [.data, .pinned], laidTests := true, laidLooks := .later }
def PlanMoreUptoCardSaid : Prop := Claim7.holds Tryd.pinned (.plain (OpenSpec.upto planMoreSpec)) planMoreUptoCard
end Rows
end Go.Proofs.YtjhjepkmcbjgoaaDoor
