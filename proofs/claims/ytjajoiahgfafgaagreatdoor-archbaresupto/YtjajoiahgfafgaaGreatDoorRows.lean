/-
  NARROWER THAN 'FOR EVERY INPUT', by the rows' own cells (each row's printed sentence says how): ArchReads: laid · ArchWrites: laid · ArchBares: laid · ArchSame: laid.
  DERIVED. THE GIVEN ROWS OF THIS SEAT. 4 by the template 'for every input the law returns true; each argument reads behind the call as it read before'; 0 by the template 'total and deterministic' (their statements: YtjajoiahgfafgaaGreatDoorTotals.lean).
  GIVEN WITH THE SEED: the statements are not yours to turn. If you find one false, say at which input.
  Laid BY PROGRAM, IN A SANDBOX (cutbox-rows.mjs): the forced cells as the released guide's own fill.sh prints them over the translation e7407ffee0d4117e… (all of the seat's roots in one cut). By AI agents, Wed Nov 11 2026. No macro, syntax, notation, axiom, sorry.
-/
import Derived.Test.YtjajoiahgfafgaaGreatDoorChecked
import GoSem.PinnedTables
import GoSem.Claim
import GoSem.ClaimJoined
import GoSem.ClaimMapViews
import Derived.JoinedTies
import Derived.KernelRfl
namespace Go.Proofs.YtjajoiahgfafgaaGreatDoor
/- THE CELL 'sum', in the pinned program and in every row, IS THE sha256 OF THE DUMP (.gsa) THAT YtjajoiahgfafgaaGreatDoorProg.lean LOADS. Nothing in Lean hashes anything: it is a label: what it is worth is what the hold of that sum in a sandbox is worth. -/
noncomputable def Tryz.pinned : Pinned := { name := "ytjajoiahgfafgaagreatdoor", sum := "e7407ffee0d4117e3a6d79004550e28854e0f7b694b34e1180f29b008e45c431", checked := Tryz.checked }
namespace Rows
def none {H : Type} : Left H := { results := [], args := [] }

/- WHAT THE LISTED PACKAGE-LEVEL VARIABLES READ AS WHEN THE CALL BEGINS. Each datum BY PROGRAM (the guide's laid-datum.mjs) off the statement by which the dump's own 'gosem.cut.vars' lays the variable. In a bare row this is a premise. The card (YtjajoiahgfafgaaGreatDoorCards.lean) ties it to the program's text. -/
def laid_unicode_utf8_acceptRanges {H : Type} : DataW H := .agg [.agg [.lit (.int .u8 128), .lit (.int .u8 191)], .agg [.lit (.int .u8 160), .lit (.int .u8 191)], .agg [.lit (.int .u8 128), .lit (.int .u8 159)], .agg [.lit (.int .u8 144), .lit (.int .u8 191)], .agg [.lit (.int .u8 128), .lit (.int .u8 143)], .agg [.lit (.int .u8 0), .lit (.int .u8 0)], .agg [.lit (.int .u8 0), .lit (.int .u8 0)], .agg [.lit (.int .u8 0), .lit (.int .u8 0)], .agg [.lit (.int .u8 0), .lit (.int .u8 0)], .agg [.lit (.int .u8 0), .lit (.int .u8 0)], .agg [.lit (.int .u8 0), .lit (.int .u8 0)], .agg [.lit (.int .u8 0), .lit (.int .u8 0)], .agg [.lit (.int .u8 0), .lit (.int .u8 0)], .agg [.lit (.int .u8 0), .lit (.int .u8 0)], .agg [.lit (.int .u8 0), .lit (.int .u8 0)], .agg [.lit (.int .u8 0), .lit (.int .u8 0)]]
/-- One of Go's own tables, pinned by name: the form's constant. -/
def laid_unicode_utf8_first : DataW Unit := Go.Pinned.utf8First

/-- 'hawserlaw09.ArchReads': WHATEVER THE INPUT: true; the input reads as it did. -/
def archReadsSpec : ChangeSpec := { name := "archReads", fn := fun _ => fun
  | [d] => { results := [.lit (.bool true)], args := [d] }
  | _ => none }
def archReadsRow : OpenClaim := { program := "ytjajoiahgfafgaagreatdoor", sum := "e7407ffee0d4117e3a6d79004550e28854e0f7b694b34e1180f29b008e45c431", func := "hawser/hawserlaw09.ArchReads", spec := "archReads", inPlace := ["internal/bytealg.IndexByteString", "internal/bytealg.IndexString", "internal/bytealg.CountString", "internal/abi.NoEscape"], unfollowed := true, recurses := true, named := ["unicode/utf8.first", "unicode/utf8.acceptRanges", "internal/bytealg.MaxLen"], apart := false, laid := [("unicode/utf8.acceptRanges", laid_unicode_utf8_acceptRanges), ("unicode/utf8.first", laid_unicode_utf8_first)] }
def ArchReadsSaid : Prop := archReadsRow.holds Tryz.pinned (OpenSpec.ofChange archReadsSpec)

/-- ITS FALSE NEIGHBOUR: 'it returns false'. Refute it at one input. -/
def archReadsWrong : ChangeSpec := { name := "archReads", fn := fun _ => fun
  | [d] => { results := [.lit (.bool false)], args := [d] }
  | _ => none }
def ArchReadsWrongFalsely : Prop := archReadsRow.holds Tryz.pinned (OpenSpec.ofChange archReadsWrong)

/-- 'hawserlaw09.ArchWrites': WHATEVER THE INPUT: true; the input reads as it did. -/
def archWritesSpec : ChangeSpec := { name := "archWrites", fn := fun _ => fun
  | [d1, d2] => { results := [.lit (.bool true)], args := [d1, d2] }
  | _ => none }
def archWritesRow : OpenClaim := { program := "ytjajoiahgfafgaagreatdoor", sum := "e7407ffee0d4117e3a6d79004550e28854e0f7b694b34e1180f29b008e45c431", func := "hawser/hawserlaw09.ArchWrites", spec := "archWrites", inPlace := ["internal/bytealg.IndexByteString", "internal/bytealg.IndexString", "internal/bytealg.CountString", "internal/abi.NoEscape"], unfollowed := true, recurses := true, named := ["unicode/utf8.first", "unicode/utf8.acceptRanges", "internal/bytealg.MaxLen"], apart := false, laid := [("unicode/utf8.acceptRanges", laid_unicode_utf8_acceptRanges), ("unicode/utf8.first", laid_unicode_utf8_first)] }
def ArchWritesSaid : Prop := archWritesRow.holds Tryz.pinned (OpenSpec.ofChange archWritesSpec)

/-- ITS FALSE NEIGHBOUR: 'it returns false'. Refute it at one input. -/
def archWritesWrong : ChangeSpec := { name := "archWrites", fn := fun _ => fun
  | [d1, d2] => { results := [.lit (.bool false)], args := [d1, d2] }
  | _ => none }
def ArchWritesWrongFalsely : Prop := archWritesRow.holds Tryz.pinned (OpenSpec.ofChange archWritesWrong)

/-- 'hawserlaw09.ArchBares': WHATEVER THE INPUT: true; the input reads as it did. -/
def archBaresSpec : ChangeSpec := { name := "archBares", fn := fun _ => fun
  | [d] => { results := [.lit (.bool true)], args := [d] }
  | _ => none }
def archBaresRow : OpenClaim := { program := "ytjajoiahgfafgaagreatdoor", sum := "e7407ffee0d4117e3a6d79004550e28854e0f7b694b34e1180f29b008e45c431", func := "hawser/hawserlaw09.ArchBares", spec := "archBares", inPlace := ["internal/bytealg.IndexByteString", "internal/bytealg.IndexString", "internal/bytealg.CountString", "internal/abi.NoEscape", "internal/bytealg.MakeNoZero"], unfollowed := true, recurses := true, named := ["unicode/utf8.first", "unicode/utf8.acceptRanges", "internal/bytealg.MaxLen"], apart := false, laid := [("unicode/utf8.acceptRanges", laid_unicode_utf8_acceptRanges), ("unicode/utf8.first", laid_unicode_utf8_first)] }
def ArchBaresSaid : Prop := archBaresRow.holds Tryz.pinned (OpenSpec.ofChange archBaresSpec)

/-- ITS FALSE NEIGHBOUR: 'it returns false'. Refute it at one input. -/
def archBaresWrong : ChangeSpec := { name := "archBares", fn := fun _ => fun
  | [d] => { results := [.lit (.bool false)], args := [d] }
  | _ => none }
def ArchBaresWrongFalsely : Prop := archBaresRow.holds Tryz.pinned (OpenSpec.ofChange archBaresWrong)

/-- 'hawserlaw09.ArchSame': WHATEVER THE INPUT: true; the input reads as it did. -/
def archSameSpec : ChangeSpec := { name := "archSame", fn := fun _ => fun
  | [d1, d2] => { results := [.lit (.bool true)], args := [d1, d2] }
  | _ => none }
def archSameRow : OpenClaim := { program := "ytjajoiahgfafgaagreatdoor", sum := "e7407ffee0d4117e3a6d79004550e28854e0f7b694b34e1180f29b008e45c431", func := "hawser/hawserlaw09.ArchSame", spec := "archSame", inPlace := ["internal/bytealg.IndexByteString", "internal/bytealg.IndexString", "internal/bytealg.CountString", "internal/abi.NoEscape", "internal/bytealg.MakeNoZero"], unfollowed := true, recurses := true, named := ["unicode/utf8.first", "unicode/utf8.acceptRanges", "internal/bytealg.MaxLen"], apart := false, laid := [("unicode/utf8.acceptRanges", laid_unicode_utf8_acceptRanges), ("unicode/utf8.first", laid_unicode_utf8_first)] }
def ArchSameSaid : Prop := archSameRow.holds Tryz.pinned (OpenSpec.ofChange archSameSpec)

/-- ITS FALSE NEIGHBOUR: 'it returns false'. Refute it at one input. -/
def archSameWrong : ChangeSpec := { name := "archSame", fn := fun _ => fun
  | [d1, d2] => { results := [.lit (.bool false)], args := [d1, d2] }
  | _ => none }
def ArchSameWrongFalsely : Prop := archSameRow.holds Tryz.pinned (OpenSpec.ofChange archSameWrong)

/- THE SECOND FORM. 'bulk': how many values and letters a reading holds, each counted each time it is reached (what is shared counts as often as it is met; a slice's spare places count too). A statement '..UptoSaid' is the law's where the arguments, and the package variables that the reading takes, are together of bulk at most 1048576: NARROWER than '..Said'. Prove '..Said' where nothing that the law and all that it calls make is longer than what came in: it says more and counts as full. Else prove '..UptoSaid'. A law counts once. -/
mutual
def uptoBulk {H : Type} : DataW H → Nat
  | .lit (.string bytes) => bytes.length + 1
  | .lit _ => 1
  | .nil => 1
  | .ptr d => uptoBulk d + 1
  | .slice elems spare => uptoBulkAll elems + uptoBulkAll spare + 1
  | .agg parts => uptoBulkAll parts + 1
  | .iface _ d => uptoBulk d + 1
  | .map entries => uptoBulkEntries entries + 1
  | .held _ => 1
def uptoBulkAll {H : Type} : List (DataW H) → Nat
  | [] => 0
  | d :: r => uptoBulk d + uptoBulkAll r
def uptoBulkEntries {H : Type} : List (Lit × DataW H) → Nat
  | [] => 0
  | x :: r => uptoBulkEntry x + uptoBulkEntries r
def uptoBulkEntry {H : Type} : Lit × DataW H → Nat
  | (.string bytes, d) => bytes.length + uptoBulk d + 1
  | (_, d) => uptoBulk d + 1
 end
def uptoSmall : (H : Type) → List (DataW H) → Bool := fun _ ds => decide (uptoBulkAll ds ≤ 1048576)
def OpenSpec.upto (s : _root_.Go.ChangeSpec) : _root_.Go.OpenSpec := { _root_.Go.OpenSpec.ofChange s with cond := some uptoSmall }

/-- 'hawserlaw09.ArchReads', WHERE WHAT IT READS IS OF BULK AT MOST 1048576: true; the input reads as it did. -/
def archReadsUptoRow : OpenClaim := { program := "ytjajoiahgfafgaagreatdoor", sum := "e7407ffee0d4117e3a6d79004550e28854e0f7b694b34e1180f29b008e45c431", func := "hawser/hawserlaw09.ArchReads", spec := "archReads", inPlace := ["internal/bytealg.IndexByteString", "internal/bytealg.IndexString", "internal/bytealg.CountString", "internal/abi.NoEscape"], unfollowed := true, recurses := true, named := ["unicode/utf8.first", "unicode/utf8.acceptRanges", "internal/bytealg.MaxLen"], apart := false, laid := [("unicode/utf8.acceptRanges", laid_unicode_utf8_acceptRanges), ("unicode/utf8.first", laid_unicode_utf8_first)], narrowed := true }
def ArchReadsUptoSaid : Prop := archReadsUptoRow.holds Tryz.pinned (OpenSpec.upto archReadsSpec)

/-- 'hawserlaw09.ArchWrites', WHERE WHAT IT READS IS OF BULK AT MOST 1048576: true; the input reads as it did. -/
def archWritesUptoRow : OpenClaim := { program := "ytjajoiahgfafgaagreatdoor", sum := "e7407ffee0d4117e3a6d79004550e28854e0f7b694b34e1180f29b008e45c431", func := "hawser/hawserlaw09.ArchWrites", spec := "archWrites", inPlace := ["internal/bytealg.IndexByteString", "internal/bytealg.IndexString", "internal/bytealg.CountString", "internal/abi.NoEscape"], unfollowed := true, recurses := true, named := ["unicode/utf8.first", "unicode/utf8.acceptRanges", "internal/bytealg.MaxLen"], apart := false, laid := [("unicode/utf8.acceptRanges", laid_unicode_utf8_acceptRanges), ("unicode/utf8.first", laid_unicode_utf8_first)], narrowed := true }
def ArchWritesUptoSaid : Prop := archWritesUptoRow.holds Tryz.pinned (OpenSpec.upto archWritesSpec)

/-- 'hawserlaw09.ArchBares', WHERE WHAT IT READS IS OF BULK AT MOST 1048576: true; the input reads as it did. -/
def archBaresUptoRow : OpenClaim := { program := "ytjajoiahgfafgaagreatdoor", sum := "e7407ffee0d4117e3a6d79004550e28854e0f7b694b34e1180f29b008e45c431", func := "hawser/hawserlaw09.ArchBares", spec := "archBares", inPlace := ["internal/bytealg.IndexByteString", "internal/bytealg.IndexString", "internal/bytealg.CountString", "internal/abi.NoEscape", "internal/bytealg.MakeNoZero"], unfollowed := true, recurses := true, named := ["unicode/utf8.first", "unicode/utf8.acceptRanges", "internal/bytealg.MaxLen"], apart := false, laid := [("unicode/utf8.acceptRanges", laid_unicode_utf8_acceptRanges), ("unicode/utf8.first", laid_unicode_utf8_first)], narrowed := true }
def ArchBaresUptoSaid : Prop := archBaresUptoRow.holds Tryz.pinned (OpenSpec.upto archBaresSpec)

/-- 'hawserlaw09.ArchSame', WHERE WHAT IT READS IS OF BULK AT MOST 1048576: true; the input reads as it did. -/
def archSameUptoRow : OpenClaim := { program := "ytjajoiahgfafgaagreatdoor", sum := "e7407ffee0d4117e3a6d79004550e28854e0f7b694b34e1180f29b008e45c431", func := "hawser/hawserlaw09.ArchSame", spec := "archSame", inPlace := ["internal/bytealg.IndexByteString", "internal/bytealg.IndexString", "internal/bytealg.CountString", "internal/abi.NoEscape", "internal/bytealg.MakeNoZero"], unfollowed := true, recurses := true, named := ["unicode/utf8.first", "unicode/utf8.acceptRanges", "internal/bytealg.MaxLen"], apart := false, laid := [("unicode/utf8.acceptRanges", laid_unicode_utf8_acceptRanges), ("unicode/utf8.first", laid_unicode_utf8_first)], narrowed := true }
def ArchSameUptoSaid : Prop := archSameUptoRow.holds Tryz.pinned (OpenSpec.upto archSameSpec)

end Rows
end Go.Proofs.YtjajoiahgfafgaaGreatDoor
