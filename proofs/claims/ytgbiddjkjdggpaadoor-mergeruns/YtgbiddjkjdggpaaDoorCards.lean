/-
  DERIVED. GIVEN WITH THE SEED: THE CARDS: each row of YtgbiddjkjdggpaaDoorRows.lean that lists a variable, with what it lists TIED to the program's text (the seventh form; the later family's looks); each row that meets fmt, with fmt's text TOLD by the authors' own Lean function (tested against real Go, not proved from fmt's source: count such statements apart). THE CARD IS WHAT COUNTS. Prove the row's statement (the work); the ties are given (YtgbiddjkjdggpaaDoorTie.lean); close each card by the builder's one call (the guide's Derived/Test/ToyasCard.lean, 'card_holds'). Laid BY PROGRAM, IN A SANDBOX (cutbox-door.mjs). By AI agents, Wed Nov 11 2026. No macro, syntax, notation, axiom, sorry.
-/
import Derived.Test.YtgbiddjkjdggpaaDoorRows
import GoSem.ClaimSeven
namespace Go.Proofs.YtgbiddjkjdggpaaDoor
namespace Rows

/-- THE TIED CARD OF 'hawserlaw17.MergeRuns'. -/
def mergeRunsCard : Claim7 := { stood := { row := mergeRunsRow, standIns := [], harness := (true, "1e40832b68316abbaf9a73a2e860979d413b995a968c04db93dd12fed2dda6ee"), looks := false }, kinds := [], alts := [], laidByText := true, laidKinds := [.data, .pinned], laidTests := true, laidLooks := .later }
def MergeRunsCardSaid : Prop := Claim7.holds Tryd.pinned (.plain (OpenSpec.ofChange mergeRunsSpec)) mergeRunsCard

/-- THE TIED CARD OF 'hawserlaw17.MergeEven'. -/
def mergeEvenCard : Claim7 := { stood := { row := mergeEvenRow, standIns := [], harness := (true, "1e40832b68316abbaf9a73a2e860979d413b995a968c04db93dd12fed2dda6ee"), looks := false }, kinds := [], alts := [], laidByText := true, laidKinds := [.data, .pinned], laidTests := true, laidLooks := .later }
def MergeEvenCardSaid : Prop := Claim7.holds Tryd.pinned (.plain (OpenSpec.ofChange mergeEvenSpec)) mergeEvenCard

/-- THE TIED CARD OF 'hawserlaw17.MergeUnion'. -/
def mergeUnionCard : Claim7 := { stood := { row := mergeUnionRow, standIns := [], harness := (true, "1e40832b68316abbaf9a73a2e860979d413b995a968c04db93dd12fed2dda6ee"), looks := false }, kinds := [], alts := [], laidByText := true, laidKinds := [.data, .pinned], laidTests := true, laidLooks := .later }
def MergeUnionCardSaid : Prop := Claim7.holds Tryd.pinned (.plain (OpenSpec.ofChange mergeUnionSpec)) mergeUnionCard

/-- THE TIED CARD OF 'hawserlaw17.MergeSame'. -/
def mergeSameCard : Claim7 := { stood := { row := mergeSameRow, standIns := [], harness := (true, "1e40832b68316abbaf9a73a2e860979d413b995a968c04db93dd12fed2dda6ee"), looks := false }, kinds := [], alts := [], laidByText := true, laidKinds := [.data, .pinned], laidTests := true, laidLooks := .later }
def MergeSameCardSaid : Prop := Claim7.holds Tryd.pinned (.plain (OpenSpec.ofChange mergeSameSpec)) mergeSameCard

/-- THE SECOND FORM's CARD OF 'hawserlaw17.MergeRuns'. -/
def mergeRunsUptoCard : Claim7 := { stood := { row := mergeRunsUptoRow, standIns := [], harness := (true, "1e40832b68316abbaf9a73a2e860979d413b995a968c04db93dd12fed2dda6ee"), looks := false }, kinds := [], alts := [], laidByText := true, laidKinds := [.data, .pinned], laidTests := true, laidLooks := .later }
def MergeRunsUptoCardSaid : Prop := Claim7.holds Tryd.pinned (.plain (OpenSpec.upto mergeRunsSpec)) mergeRunsUptoCard

/-- THE SECOND FORM's CARD OF 'hawserlaw17.MergeEven'. -/
def mergeEvenUptoCard : Claim7 := { stood := { row := mergeEvenUptoRow, standIns := [], harness := (true, "1e40832b68316abbaf9a73a2e860979d413b995a968c04db93dd12fed2dda6ee"), looks := false }, kinds := [], alts := [], laidByText := true, laidKinds := [.data, .pinned], laidTests := true, laidLooks := .later }
def MergeEvenUptoCardSaid : Prop := Claim7.holds Tryd.pinned (.plain (OpenSpec.upto mergeEvenSpec)) mergeEvenUptoCard

/-- THE SECOND FORM's CARD OF 'hawserlaw17.MergeUnion'. -/
def mergeUnionUptoCard : Claim7 := { stood := { row := mergeUnionUptoRow, standIns := [], harness := (true, "1e40832b68316abbaf9a73a2e860979d413b995a968c04db93dd12fed2dda6ee"), looks := false }, kinds := [], alts := [], laidByText := true, laidKinds := [.data, .pinned], laidTests := true, laidLooks := .later }
def MergeUnionUptoCardSaid : Prop := Claim7.holds Tryd.pinned (.plain (OpenSpec.upto mergeUnionSpec)) mergeUnionUptoCard

/-- THE SECOND FORM's CARD OF 'hawserlaw17.MergeSame'. -/
def mergeSameUptoCard : Claim7 := { stood := { row := mergeSameUptoRow, standIns := [], harness := (true, "1e40832b68316abbaf9a73a2e860979d413b995a968c04db93dd12fed2dda6ee"), looks := false }, kinds := [], alts := [], laidByText := true, laidKinds := [.data, .pinned], laidTests := true, laidLooks := .later }
def MergeSameUptoCardSaid : Prop := Claim7.holds Tryd.pinned (.plain (OpenSpec.upto mergeSameSpec)) mergeSameUptoCard
end Rows
end Go.Proofs.YtgbiddjkjdggpaaDoor
