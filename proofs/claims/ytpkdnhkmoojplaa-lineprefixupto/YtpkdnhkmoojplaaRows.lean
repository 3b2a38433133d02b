/-
  No cell of these rows narrows 'for every input' (looked for: loops, veiled, ifaces, maps, wideKeys, modest, calm, conditions, laid).
  DERIVED. THE GIVEN ROWS OF THIS SEAT. 3 by the template 'for every input the law returns true; each argument reads behind the call as it read before'; 0 by the template 'total and deterministic' (their statements: YtpkdnhkmoojplaaTotals.lean).
  GIVEN WITH THE SEED: the statements are not yours to turn. If you find one false, say at which input.
  Laid BY PROGRAM, IN A SANDBOX (cutbox-rows.mjs): the forced cells as the released guide's own fill.sh prints them over the translation dbbf5368072fdb7c… (all of the seat's roots in one cut). By AI agents, Wed Nov 11 2026. No macro, syntax, notation, axiom, sorry.
-/
import Derived.Test.YtpkdnhkmoojplaaChecked
import GoSem.Claim
import GoSem.ClaimJoined
import GoSem.ClaimMapViews
import Derived.JoinedTies
import Derived.KernelRfl
namespace Go.Proofs.Ytpkdnhkmoojplaa
/- THE CELL 'sum', in the pinned program and in every row, IS THE sha256 OF THE DUMP (.gsa) THAT YtpkdnhkmoojplaaProg.lean LOADS. Nothing in Lean hashes anything: it is a label: what it is worth is what the hold of that sum in a sandbox is worth. -/
noncomputable def Try.pinned : Pinned := { name := "ytpkdnhkmoojplaa", sum := "dbbf5368072fdb7c909ed15c00f72777ac6a9cd69cdfabd415b752dbb483d798", checked := Try.checked }
namespace Rows
def none {H : Type} : Left H := { results := [], args := [] }

/-- 'hawserlaw15.LineRuns': WHATEVER THE INPUT: true; the input reads as it did. -/
def lineRunsSpec : ChangeSpec := { name := "lineRuns", fn := fun _ => fun
  | [d1, d2, d3] => { results := [.lit (.bool true)], args := [d1, d2, d3] }
  | _ => none }
def lineRunsRow : OpenClaim := { program := "ytpkdnhkmoojplaa", sum := "dbbf5368072fdb7c909ed15c00f72777ac6a9cd69cdfabd415b752dbb483d798", func := "hawser/hawserlaw15.LineRuns", spec := "lineRuns", inPlace := ["internal/abi.NoEscape"], apart := false }
def LineRunsSaid : Prop := lineRunsRow.holds Try.pinned (OpenSpec.ofChange lineRunsSpec)

/-- ITS FALSE NEIGHBOUR: 'it returns false'. Refute it at one input. -/
def lineRunsWrong : ChangeSpec := { name := "lineRuns", fn := fun _ => fun
  | [d1, d2, d3] => { results := [.lit (.bool false)], args := [d1, d2, d3] }
  | _ => none }
def LineRunsWrongFalsely : Prop := lineRunsRow.holds Try.pinned (OpenSpec.ofChange lineRunsWrong)

/-- 'hawserlaw15.LinePrefix': WHATEVER THE INPUT: true; the input reads as it did. -/
def linePrefixSpec : ChangeSpec := { name := "linePrefix", fn := fun _ => fun
  | [d1, d2] => { results := [.lit (.bool true)], args := [d1, d2] }
  | _ => none }
def linePrefixRow : OpenClaim := { program := "ytpkdnhkmoojplaa", sum := "dbbf5368072fdb7c909ed15c00f72777ac6a9cd69cdfabd415b752dbb483d798", func := "hawser/hawserlaw15.LinePrefix", spec := "linePrefix", inPlace := ["internal/abi.NoEscape"], apart := false }
def LinePrefixSaid : Prop := linePrefixRow.holds Try.pinned (OpenSpec.ofChange linePrefixSpec)

/-- ITS FALSE NEIGHBOUR: 'it returns false'. Refute it at one input. -/
def linePrefixWrong : ChangeSpec := { name := "linePrefix", fn := fun _ => fun
  | [d1, d2] => { results := [.lit (.bool false)], args := [d1, d2] }
  | _ => none }
def LinePrefixWrongFalsely : Prop := linePrefixRow.holds Try.pinned (OpenSpec.ofChange linePrefixWrong)

/-- 'hawserlaw15.LineMore': WHATEVER THE INPUT: true; the input reads as it did. -/
def lineMoreSpec : ChangeSpec := { name := "lineMore", fn := fun _ => fun
  | [d1, d2, d3] => { results := [.lit (.bool true)], args := [d1, d2, d3] }
  | _ => none }
def lineMoreRow : OpenClaim := { program := "ytpkdnhkmoojplaa", sum := "dbbf5368072fdb7c909ed15c00f72777ac6a9cd69cdfabd415b752dbb483d798", func := "hawser/hawserlaw15.LineMore", spec := "lineMore", inPlace := ["internal/abi.NoEscape"], apart := false }
def LineMoreSaid : Prop := lineMoreRow.holds Try.pinned (OpenSpec.ofChange lineMoreSpec)

/-- ITS FALSE NEIGHBOUR: 'it returns false'. Refute it at one input. -/
def lineMoreWrong : ChangeSpec := { name := "lineMore", fn := fun _ => fun
  | [d1, d2, d3] => { results := [.lit (.bool false)], args := [d1, d2, d3] }
  | _ => none }
def LineMoreWrongFalsely : Prop := lineMoreRow.holds Try.pinned (OpenSpec.ofChange lineMoreWrong)

/- THE SECOND FORM. 'bulk': how many values and letters a reading holds, each counted each time it is reached (what is shared counts as often as it is met; a slice's spare places count too). A statement '..UptoSaid' is the law's where the arguments, and the package variables that the reading takes, are together of bulk at most 1048576: NARROWER than '..Said'. Prove '..Said' where nothing that the law and all that it calls make is longer than what came in: it says more and counts as full. Else prove '..UptoSaid'. A law counts once. -/
mutual
def uptoBulk {H : Type} : DataW H → Nat
  | .lit (.string bytes) => bytes.length + 1
  | .lit _ => 1
  | .nil => 1
  | .ptr d => uptoBulk d + 1
  | .slice elems spare => uptoBulkAll elems + uptoBulkAll spare + 1
  | .agg parts => uptoBulkAll parts + 1
  | .iface _ d => uptoBulk d + 1
  | .map entries => uptoBulkEntries entries + 1
  | .held _ => 1
def uptoBulkAll {H : Type} : List (DataW H) → Nat
  | [] => 0
  | d :: r => uptoBulk d + uptoBulkAll r
def uptoBulkEntries {H : Type} : List (Lit × DataW H) → Nat
  | [] => 0
  | x :: r => uptoBulkEntry x + uptoBulkEntries r
def uptoBulkEntry {H : Type} : Lit × DataW H → Nat
  | (.string bytes, d) => bytes.length + uptoBulk d + 1
  | (_, d) => uptoBulk d + 1
 end
def uptoSmall : (H : Type) → List (DataW H) → Bool := fun _ ds => decide (uptoBulkAll ds ≤ 1048576)
def OpenSpec.upto (s : _root_.Go.ChangeSpec) : _root_.Go.OpenSpec := { _root_.Go.OpenSpec.ofChange s with cond := some uptoSmall }

/-- 'hawserlaw15.LineRuns', WHERE WHAT IT READS IS OF BULK AT MOST 1048576: true; the input reads as it did. -/
def lineRunsUptoRow : OpenClaim := { program := "ytpkdnhkmoojplaa", sum := "dbbf5368072fdb7c909ed15c00f72777ac6a9cd69cdfabd415b752dbb483d798", func := "hawser/hawserlaw15.LineRuns", spec := "lineRuns", inPlace := ["internal/abi.NoEscape"], apart := false, narrowed := true }
def LineRunsUptoSaid : Prop := lineRunsUptoRow.holds Try.pinned (OpenSpec.upto lineRunsSpec)

/-- 'hawserlaw15.LinePrefix', WHERE WHAT IT READS IS OF BULK AT MOST 1048576: true; the input reads as it did. -/
def linePrefixUptoRow : OpenClaim := { program := "ytpkdnhkmoojplaa", sum := "dbbf5368072fdb7c909ed15c00f72777ac6a9cd69cdfabd415b752dbb483d798", func := "hawser/hawserlaw15.LinePrefix", spec := "linePrefix", inPlace := ["internal/abi.NoEscape"], apart := false, narrowed := true }
def LinePrefixUptoSaid : Prop := linePrefixUptoRow.holds Try.pinned (OpenSpec.upto linePrefixSpec)

/-- 'hawserlaw15.LineMore', WHERE WHAT IT READS IS OF BULK AT MOST 1048576: true; the input reads as it did. -/
def lineMoreUptoRow : OpenClaim := { program := "ytpkdnhkmoojplaa", sum := "dbbf5368072fdb7c909ed15c00f72777ac6a9cd69cdfabd415b752dbb483d798", func := "hawser/hawserlaw15.LineMore", spec := "lineMore", inPlace := ["internal/abi.NoEscape"], apart := false, narrowed := true }
def LineMoreUptoSaid : Prop := lineMoreUptoRow.holds Try.pinned (OpenSpec.upto lineMoreSpec)

end Rows
end Go.Proofs.Ytpkdnhkmoojplaa
