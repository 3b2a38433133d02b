/-
  DERIVED. GIVEN WITH THE SEED: THE CARDS: each row of YtjajoiahgfafgaaGreatDoorRows.lean that lists a variable, with what it lists TIED to the program's text (the seventh form; the later family's looks); each row that meets fmt, with fmt's text TOLD by the authors' own Lean function (tested against real Go, not proved from fmt's source: count such statements apart). THE CARD IS WHAT COUNTS. Prove the row's statement (the work); the ties are given (YtjajoiahgfafgaaGreatDoorTie.lean); close each card by the builder's one call (the guide's Derived/Test/ToyasCard.lean, 'card_holds'). Laid BY PROGRAM, IN A SANDBOX (cutbox-door.mjs). By AI agents, Wed Nov 11 2026. No macro, syntax, notation, axiom, sorry.
-/
import Derived.Test.YtjajoiahgfafgaaGreatDoorRows
import GoSem.ClaimSeven
namespace Go.Proofs.YtjajoiahgfafgaaGreatDoor
namespace Rows

/-- THE TIED CARD OF 'hawserlaw09.ArchReads'. -/
def archReadsCard : Claim7 := { stood := { row := archReadsRow, standIns := [], harness := (true, "6d7d2679a00aebee412e031de060b1120f8a1f5934e984a5dc00ca4cc9aa44a7"), looks := false }, kinds := [], alts := [], laidByText := true, laidKinds := [.data, .pinned], laidTests := true, laidLooks := .later }
def ArchReadsCardSaid : Prop := Claim7.holds Tryz.pinned (.plain (OpenSpec.ofChange archReadsSpec)) archReadsCard

/-- THE TIED CARD OF 'hawserlaw09.ArchWrites'. -/
def archWritesCard : Claim7 := { stood := { row := archWritesRow, standIns := [], harness := (true, "6d7d2679a00aebee412e031de060b1120f8a1f5934e984a5dc00ca4cc9aa44a7"), looks := false }, kinds := [], alts := [], laidByText := true, laidKinds := [.data, .pinned], laidTests := true, laidLooks := .later }
def ArchWritesCardSaid : Prop := Claim7.holds Tryz.pinned (.plain (OpenSpec.ofChange archWritesSpec)) archWritesCard

/-- THE TIED CARD OF 'hawserlaw09.ArchBares'. -/
def archBaresCard : Claim7 := { stood := { row := archBaresRow, standIns := [], harness := (true, "6d7d2679a00aebee412e031de060b1120f8a1f5934e984a5dc00ca4cc9aa44a7"), looks := false }, kinds := [], alts := [], laidByText := true, laidKinds := [.data, .pinned], laidTests := true, laidLooks := .later }
def ArchBaresCardSaid : Prop := Claim7.holds Tryz.pinned (.plain (OpenSpec.ofChange archBaresSpec)) archBaresCard

/-- THE TIED CARD OF 'hawserlaw09.ArchSame'. -/
def archSameCard : Claim7 := { stood := { row := archSameRow, standIns := [], harness := (true, "6d7d2679a00aebee412e031de060b1120f8a1f5934e984a5dc00ca4cc9aa44a7"), looks := false }, kinds := [], alts := [], laidByText := true, laidKinds := [.data, .pinned], laidTests := true, laidLooks := .later }
def ArchSameCardSaid : Prop := Claim7.holds Tryz.pinned (.plain (OpenSpec.ofChange archSameSpec)) archSameCard

/-- THE SECOND FORM's CARD OF 'hawserlaw09.ArchReads'. -/
def archReadsUptoCard : Claim7 := { stood := { row := archReadsUptoRow, standIns := [], harness := (true, "6d7d2679a00aebee412e031de060b1120f8a1f5934e984a5dc00ca4cc9aa44a7"), looks := false }, kinds := [], alts := [], laidByText := true, laidKinds := [.data, .pinned], laidTests := true, laidLooks := .later }
def ArchReadsUptoCardSaid : Prop := Claim7.holds Tryz.pinned (.plain (OpenSpec.upto archReadsSpec)) archReadsUptoCard

/-- THE SECOND FORM's CARD OF 'hawserlaw09.ArchWrites'. -/
def archWritesUptoCard : Claim7 := { stood := { row := archWritesUptoRow, standIns := [], harness := (true, "6d7d2679a00aebee412e031de060b1120f8a1f5934e984a5dc00ca4cc9aa44a7"), looks := false }, kinds := [], alts := [], laidByText := true, laidKinds := [.data, .pinned], laidTests := true, laidLooks := .later }
def ArchWritesUptoCardSaid : Prop := Claim7.holds Tryz.pinned (.plain (OpenSpec.upto archWritesSpec)) archWritesUptoCard

/-- THE SECOND FORM's CARD OF 'hawserlaw09.ArchBares'. -/
def archBaresUptoCard : Claim7 := { stood := { row := archBaresUptoRow, standIns := [], harness := (true, "6d7d2679a00aebee412e031de060b1120f8a1f5934e984a5dc00ca4cc9aa44a7"), looks := false }, kinds := [], alts := [], laidByText := true, laidKinds := [.data, .pinned], laidTests := true, laidLooks := .later }
def ArchBaresUptoCardSaid : Prop := Claim7.holds Tryz.pinned (.plain (OpenSpec.upto archBaresSpec)) archBaresUptoCard

/-- THE SECOND FORM's CARD OF 'hawserlaw09.ArchSame'. -/
def archSameUptoCard : Claim7 := { stood := { row := archSameUptoRow, standIns := [], harness := (true, "6d7d2679a00aebee412e031de060b1120f8a1f5934e984a5dc00ca4cc9aa44a7"), looks := false }, kinds := [], alts := [], laidByText := true, laidKinds := [.data, .pinned], laidTests := true, laidLooks := .later }
def ArchSameUptoCardSaid : Prop := Claim7.holds Tryz.pinned (.plain (OpenSpec.upto archSameSpec)) archSameUptoCard
end Rows
end Go.Proofs.YtjajoiahgfafgaaGreatDoor
