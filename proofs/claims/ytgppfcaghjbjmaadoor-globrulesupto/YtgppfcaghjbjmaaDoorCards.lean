/-
  DERIVED. GIVEN WITH THE SEED: THE CARDS: each row of YtgppfcaghjbjmaaDoorRows.lean that lists a variable, with what it lists TIED to the program's text (the seventh form; the later family's looks); each row that meets fmt, with fmt's text TOLD by the authors' own Lean function (tested against real Go, not proved from fmt's source: count such statements apart). THE CARD IS WHAT COUNTS. Prove the row's statement (the work); the ties are given (YtgppfcaghjbjmaaDoorTie.lean); close each card by the builder's one call (the guide's Derived/Test/ToyasCard.lean, 'card_holds'). Laid BY PROGRAM, IN A SANDBOX (cutbox-door.mjs). By AI agents, Wed Nov 11 2026. No macro, syntax, notation, axiom, sorry.
-/
import Derived.Test.YtgppfcaghjbjmaaDoorRows
import GoSem.ClaimSeven
namespace Go.Proofs.YtgppfcaghjbjmaaDoor
namespace Rows

/-- THE TIED CARD OF 'hawserlaw02.GlobMatches'. -/
def globMatchesCard : Claim7 := { stood := { row := globMatchesRow, standIns := [], harness := (true, "707f18c5eef70c35237b98abdd669ddb35ddad94647122385d21d5c0e89ede74"), looks := false }, kinds := [], alts := [], laidByText := true, laidKinds := [.data, .pinned], laidTests := true, laidLooks := .later }
def GlobMatchesCardSaid : Prop := Claim7.holds Tryd.pinned (.plain (OpenSpec.ofChange globMatchesSpec)) globMatchesCard

/-- THE TIED CARD OF 'hawserlaw02.GlobStars'. -/
def globStarsCard : Claim7 := { stood := { row := globStarsRow, standIns := [], harness := (true, "707f18c5eef70c35237b98abdd669ddb35ddad94647122385d21d5c0e89ede74"), looks := false }, kinds := [], alts := [], laidByText := true, laidKinds := [.data, .pinned], laidTests := true, laidLooks := .later }
def GlobStarsCardSaid : Prop := Claim7.holds Tryd.pinned (.plain (OpenSpec.ofChange globStarsSpec)) globStarsCard

/-- THE TIED CARD OF 'hawserlaw02.GlobBelow'. -/
def globBelowCard : Claim7 := { stood := { row := globBelowRow, standIns := [], harness := (true, "707f18c5eef70c35237b98abdd669ddb35ddad94647122385d21d5c0e89ede74"), looks := false }, kinds := [], alts := [], laidByText := true, laidKinds := [.data, .pinned], laidTests := true, laidLooks := .later }
def GlobBelowCardSaid : Prop := Claim7.holds Tryd.pinned (.plain (OpenSpec.ofChange globBelowSpec)) globBelowCard

/-- THE TIED CARD OF 'hawserlaw02.GlobKeeps'. -/
def globKeepsCard : Claim7 := { stood := { row := globKeepsRow, standIns := [], harness := (true, "707f18c5eef70c35237b98abdd669ddb35ddad94647122385d21d5c0e89ede74"), looks := false }, kinds := [], alts := [], laidByText := true, laidKinds := [.data, .pinned], laidTests := true, laidLooks := .later }
def GlobKeepsCardSaid : Prop := Claim7.holds Tryd.pinned (.plain (OpenSpec.ofChange globKeepsSpec)) globKeepsCard

/-- THE TIED CARD OF 'hawserlaw02.GlobRules'. -/
def globRulesCard : Claim7 := { stood := { row := globRulesRow, standIns := [], harness := (true, "707f18c5eef70c35237b98abdd669ddb35ddad94647122385d21d5c0e89ede74"), looks := false }, kinds := [], alts := [], laidByText := true, laidKinds := [.data, .pinned], laidTests := true, laidLooks := .later }
def GlobRulesCardSaid : Prop := Claim7.holds Tryd.pinned (.plain (OpenSpec.ofChange globRulesSpec)) globRulesCard

/-- THE SECOND FORM's CARD OF 'hawserlaw02.GlobMatches'. -/
def globMatchesUptoCard : Claim7 := { stood := { row := globMatchesUptoRow, standIns := [], harness := (true, "707f18c5eef70c35237b98abdd669ddb35ddad94647122385d21d5c0e89ede74"), looks := false }, kinds := [], alts := [], laidByText := true, laidKinds := [.data, .pinned], laidTests := true, laidLooks := .later }
def GlobMatchesUptoCardSaid : Prop := Claim7.holds Tryd.pinned (.plain (OpenSpec.upto globMatchesSpec)) globMatchesUptoCard

/-- THE SECOND FORM's CARD OF 'hawserlaw02.GlobStars'. -/
def globStarsUptoCard : Claim7 := { stood := { row := globStarsUptoRow, standIns := [], harness := (true, "707f18c5eef70c35237b98abdd669ddb35ddad94647122385d21d5c0e89ede74"), looks := false }, kinds := [], alts := [], laidByText := true, laidKinds := [.data, .pinned], laidTests := true, laidLooks := .later }
def GlobStarsUptoCardSaid : Prop := Claim7.holds Tryd.pinned (.plain (OpenSpec.upto globStarsSpec)) globStarsUptoCard

/-- THE SECOND FORM's CARD OF 'hawserlaw02.GlobBelow'. -/
def globBelowUptoCard : Claim7 := { stood := { row := globBelowUptoRow, standIns := [], harness := (true, "707f18c5eef70c35237b98abdd669ddb35ddad94647122385d21d5c0e89ede74"), looks := false }, kinds := [], alts := [], laidByText := true, laidKinds := [.data, .pinned], laidTests := true, laidLooks := .later }
def GlobBelowUptoCardSaid : Prop := Claim7.holds Tryd.pinned (.plain (OpenSpec.upto globBelowSpec)) globBelowUptoCard

/-- THE SECOND FORM's CARD OF 'hawserlaw02.GlobKeeps'. -/
def globKeepsUptoCard : Claim7 := { stood := { row := globKeepsUptoRow, standIns := [], harness := (true, "707f18c5eef70c35237b98abdd669ddb35ddad94647122385d21d5c0e89ede74"), looks := false }, kinds := [], alts := [], laidByText := true, laidKinds := [.data, .pinned], laidTests := true, laidLooks := .later }
def GlobKeepsUptoCardSaid : Prop := Claim7.holds Tryd.pinned (.plain (OpenSpec.upto globKeepsSpec)) globKeepsUptoCard

/-- THE SECOND FORM's CARD OF 'hawserlaw02.GlobRules'. -/
def globRulesUptoCard : Claim7 := { stood := { row := globRulesUptoRow, standIns := [], harness := (true, "707f18c5eef70c35237b98abdd669ddb35ddad94647122385d21d5c0e89ede74"), looks := false }, kinds := [], alts := [], laidByText := true, laidKinds := [.data, .pinned], laidTests := true, laidLooks := .later }
def GlobRulesUptoCardSaid : Prop := Claim7.holds Tryd.pinned (.plain (OpenSpec.upto globRulesSpec)) globRulesUptoCard
end Rows
end Go.Proofs.YtgppfcaghjbjmaaDoor
