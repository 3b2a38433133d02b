/-
  DERIVED. GIVEN WITH THE SEED: THE CARDS: each row of YtpfpjinkifggdaaDoorRows.lean that lists a variable, with what it lists TIED to the program's text (the seventh form; the later family's looks); each row that meets fmt, with fmt's text TOLD by the authors' own Lean function (tested against real Go, not proved from fmt's source: count such statements apart). THE CARD IS WHAT COUNTS. Prove the row's statement (the work); the ties are given (YtpfpjinkifggdaaDoorTie.lean); close each card by the builder's one call (the guide's Derived/Test/ToyasCard.lean, 'card_holds'). Laid BY PROGRAM, IN A SANDBOX (cutbox-door.mjs). By AI agents, Wed Nov 11 2026. No macro, syntax, notation, axiom, sorry.
-/
import Derived.Test.YtpfpjinkifggdaaDoorRows
import GoSem.ClaimSeven
namespace Go.Proofs.YtpfpjinkifggdaaDoor
namespace Rows

/-- THE TIED CARD OF 'hawserlaw01.NameClashes'. -/
def nameClashesCard : Claim7 := { stood := { row := nameClashesRow, standIns := [], harness := (true, "8d6f0d5224a579b9f3d6e30f733e4edfe995bea9849d6cb3ce347684d6b2e76f"), looks := false }, kinds := [], alts := [], laidByText := true, laidKinds := [.data, .pinned], laidTests := true, laidLooks := .later }
def NameClashesCardSaid : Prop := Claim7.holds Tryd.pinned (.plain (OpenSpec.ofChange nameClashesSpec)) nameClashesCard

/-- THE TIED CARD OF 'hawserlaw01.NamePairs'. -/
def namePairsCard : Claim7 := { stood := { row := namePairsRow, standIns := [], harness := (true, "8d6f0d5224a579b9f3d6e30f733e4edfe995bea9849d6cb3ce347684d6b2e76f"), looks := false }, kinds := [], alts := [], laidByText := true, laidKinds := [.data, .pinned], laidTests := true, laidLooks := .later }
def NamePairsCardSaid : Prop := Claim7.holds Tryd.pinned (.plain (OpenSpec.ofChange namePairsSpec)) namePairsCard

/-- THE TIED CARD OF 'hawserlaw01.NameOrder'. -/
def nameOrderCard : Claim7 := { stood := { row := nameOrderRow, standIns := [], harness := (true, "8d6f0d5224a579b9f3d6e30f733e4edfe995bea9849d6cb3ce347684d6b2e76f"), looks := false }, kinds := [], alts := [], laidByText := true, laidKinds := [.data, .pinned], laidTests := true, laidLooks := .later }
def NameOrderCardSaid : Prop := Claim7.holds Tryd.pinned (.plain (OpenSpec.ofChange nameOrderSpec)) nameOrderCard

/-- THE TIED CARD OF 'hawserlaw01.NameBack'. -/
def nameBackCard : Claim7 := { stood := { row := nameBackRow, standIns := [], harness := (true, "8d6f0d5224a579b9f3d6e30f733e4edfe995bea9849d6cb3ce347684d6b2e76f"), looks := false }, kinds := [], alts := [], laidByText := true, laidKinds := [.data, .pinned], laidTests := true, laidLooks := .later }
def NameBackCardSaid : Prop := Claim7.holds Tryd.pinned (.plain (OpenSpec.ofChange nameBackSpec)) nameBackCard

/-- THE TIED CARD OF 'hawserlaw01.NameTexts'. -/
def nameTextsCard : Claim7 := { stood := { row := nameTextsRow, standIns := [], harness := (true, "8d6f0d5224a579b9f3d6e30f733e4edfe995bea9849d6cb3ce347684d6b2e76f"), looks := false }, kinds := [], alts := [], laidByText := true, laidKinds := [.data, .pinned], laidTests := true, laidLooks := .later }
def NameTextsCardSaid : Prop := Claim7.holds Tryd.pinned (.plain (OpenSpec.ofChange nameTextsSpec)) nameTextsCard

/-- THE SECOND FORM's CARD OF 'hawserlaw01.NameClashes'. -/
def nameClashesUptoCard : Claim7 := { stood := { row := nameClashesUptoRow, standIns := [], harness := (true, "8d6f0d5224a579b9f3d6e30f733e4edfe995bea9849d6cb3ce347684d6b2e76f"), looks := false }, kinds := [], alts := [], laidByText := true, laidKinds := [.data, .pinned], laidTests := true, laidLooks := .later }
def NameClashesUptoCardSaid : Prop := Claim7.holds Tryd.pinned (.plain (OpenSpec.upto nameClashesSpec)) nameClashesUptoCard

/-- THE SECOND FORM's CARD OF 'hawserlaw01.NamePairs'. -/
def namePairsUptoCard : Claim7 := { stood := { row := namePairsUptoRow, standIns := [], harness := (true, "8d6f0d5224a579b9f3d6e30f733e4edfe995bea9849d6cb3ce347684d6b2e76f"), looks := false }, kinds := [], alts := [], laidByText := true, laidKinds := [.data, .pinned], laidTests := true, laidLooks := .later }
def NamePairsUptoCardSaid : Prop := Claim7.holds Tryd.pinned (.plain (OpenSpec.upto namePairsSpec)) namePairsUptoCard

/-- THE SECOND FORM's CARD OF 'hawserlaw01.NameOrder'. -/
def nameOrderUptoCard : Claim7 := { stood := { row := nameOrderUptoRow, standIns := [], harness := (true, "8d6f0d5224a579b9f3d6e30f733e4edfe995bea9849d6cb3ce347684d6b2e76f"), looks := false }, kinds := [], alts := [], laidByText := true, laidKinds := [.data, .pinned], laidTests := true, laidLooks := .later }
def NameOrderUptoCardSaid : Prop := Claim7.holds Tryd.pinned (.plain (OpenSpec.upto nameOrderSpec)) nameOrderUptoCard

/-- THE SECOND FORM's CARD OF 'hawserlaw01.NameBack'. -/
def nameBackUptoCard : Claim7 := { stood := { row := nameBackUptoRow, standIns := [], harness := (true, "8d6f0d5224a579b9f3d6e30f733e4edfe995bea9849d6cb3ce347684d6b2e76f"), looks := false }, kinds := [], alts := [], laidByText := true, laidKinds := [.data, .pinned], laidTests := true, laidLooks := .later }
def NameBackUptoCardSaid : Prop := Claim7.holds Tryd.pinned (.plain (OpenSpec.upto nameBackSpec)) nameBackUptoCard

/-- THE SECOND FORM's CARD OF 'hawserlaw01.NameTexts'. -/
def nameTextsUptoCard : Claim7 := { stood := { row := nameTextsUptoRow, standIns := [], harness := (true, "8d6f0d5224a579b9f3d6e30f733e4edfe995bea9849d6cb3ce347684d6b2e76f"), looks := false }, kinds := [], alts := [], laidByText := true, laidKinds := [.data, .pinned], laidTests := true, laidLooks := .later }
def NameTextsUptoCardSaid : Prop := Claim7.holds Tryd.pinned (.plain (OpenSpec.upto nameTextsSpec)) nameTextsUptoCard
end Rows
end Go.Proofs.YtpfpjinkifggdaaDoor
