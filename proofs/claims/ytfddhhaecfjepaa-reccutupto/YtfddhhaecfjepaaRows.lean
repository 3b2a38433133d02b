/-
  No cell of these rows narrows 'for every input' (looked for: loops, veiled, ifaces, maps, wideKeys, modest, calm, conditions, laid).
  DERIVED. THE GIVEN ROWS OF THIS SEAT. 5 by the template 'for every input the law returns true; each argument reads behind the call as it read before'; 0 by the template 'total and deterministic' (their statements: YtfddhhaecfjepaaTotals.lean).
  GIVEN WITH THE SEED: the statements are not yours to turn. If you find one false, say at which input.
  Laid BY PROGRAM, IN A SANDBOX (cutbox-rows.mjs): the forced cells as the released guide's own fill.sh prints them over the translation db48ad8bf7d5caff… (all of the seat's roots in one cut). By AI agents, Wed Nov 11 2026. No macro, syntax, notation, axiom, sorry.
-/
import Derived.Test.YtfddhhaecfjepaaChecked
import GoSem.Claim
import GoSem.ClaimJoined
import GoSem.ClaimMapViews
import Derived.JoinedTies
import Derived.KernelRfl
namespace Go.Proofs.Ytfddhhaecfjepaa
/- THE CELL 'sum', in the pinned program and in every row, IS THE sha256 OF THE DUMP (.gsa) THAT YtfddhhaecfjepaaProg.lean LOADS. Nothing in Lean hashes anything: it is a label: what it is worth is what the hold of that sum in a sandbox is worth. -/
noncomputable def Try.pinned : Pinned := { name := "ytfddhhaecfjepaa", sum := "db48ad8bf7d5caffee2e775febcafa5004b59fc2e437af5285792791fd2c5df3", checked := Try.checked }
namespace Rows
def none {H : Type} : Left H := { results := [], args := [] }

/-- 'hawserlaw05.RecTurned': WHATEVER THE INPUT: true; the input reads as it did. -/
def recTurnedSpec : ChangeSpec := { name := "recTurned", fn := fun _ => fun
  | [d1, d2, d3] => { results := [.lit (.bool true)], args := [d1, d2, d3] }
  | _ => none }
def recTurnedRow : OpenClaim := { program := "ytfddhhaecfjepaa", sum := "db48ad8bf7d5caffee2e775febcafa5004b59fc2e437af5285792791fd2c5df3", func := "hawser/hawserlaw05.RecTurned", spec := "recTurned", apart := false }
def RecTurnedSaid : Prop := recTurnedRow.holds Try.pinned (OpenSpec.ofChange recTurnedSpec)

/-- ITS FALSE NEIGHBOUR: 'it returns false'. Refute it at one input. -/
def recTurnedWrong : ChangeSpec := { name := "recTurned", fn := fun _ => fun
  | [d1, d2, d3] => { results := [.lit (.bool false)], args := [d1, d2, d3] }
  | _ => none }
def RecTurnedWrongFalsely : Prop := recTurnedRow.holds Try.pinned (OpenSpec.ofChange recTurnedWrong)

/-- 'hawserlaw05.RecReads': WHATEVER THE INPUT: true; the input reads as it did. -/
def recReadsSpec : ChangeSpec := { name := "recReads", fn := fun _ => fun
  | [d] => { results := [.lit (.bool true)], args := [d] }
  | _ => none }
def recReadsRow : OpenClaim := { program := "ytfddhhaecfjepaa", sum := "db48ad8bf7d5caffee2e775febcafa5004b59fc2e437af5285792791fd2c5df3", func := "hawser/hawserlaw05.RecReads", spec := "recReads", apart := false }
def RecReadsSaid : Prop := recReadsRow.holds Try.pinned (OpenSpec.ofChange recReadsSpec)

/-- ITS FALSE NEIGHBOUR: 'it returns false'. Refute it at one input. -/
def recReadsWrong : ChangeSpec := { name := "recReads", fn := fun _ => fun
  | [d] => { results := [.lit (.bool false)], args := [d] }
  | _ => none }
def RecReadsWrongFalsely : Prop := recReadsRow.holds Try.pinned (OpenSpec.ofChange recReadsWrong)

/-- 'hawserlaw05.RecPacks': WHATEVER THE INPUT: true; the input reads as it did. -/
def recPacksSpec : ChangeSpec := { name := "recPacks", fn := fun _ => fun
  | [d] => { results := [.lit (.bool true)], args := [d] }
  | _ => none }
def recPacksRow : OpenClaim := { program := "ytfddhhaecfjepaa", sum := "db48ad8bf7d5caffee2e775febcafa5004b59fc2e437af5285792791fd2c5df3", func := "hawser/hawserlaw05.RecPacks", spec := "recPacks", inPlace := ["internal/abi.NoEscape"], apart := false }
def RecPacksSaid : Prop := recPacksRow.holds Try.pinned (OpenSpec.ofChange recPacksSpec)

/-- ITS FALSE NEIGHBOUR: 'it returns false'. Refute it at one input. -/
def recPacksWrong : ChangeSpec := { name := "recPacks", fn := fun _ => fun
  | [d] => { results := [.lit (.bool false)], args := [d] }
  | _ => none }
def RecPacksWrongFalsely : Prop := recPacksRow.holds Try.pinned (OpenSpec.ofChange recPacksWrong)

/-- 'hawserlaw05.RecBack': WHATEVER THE INPUT: true; the input reads as it did. -/
def recBackSpec : ChangeSpec := { name := "recBack", fn := fun _ => fun
  | [d1, d2] => { results := [.lit (.bool true)], args := [d1, d2] }
  | _ => none }
def recBackRow : OpenClaim := { program := "ytfddhhaecfjepaa", sum := "db48ad8bf7d5caffee2e775febcafa5004b59fc2e437af5285792791fd2c5df3", func := "hawser/hawserlaw05.RecBack", spec := "recBack", inPlace := ["internal/abi.NoEscape"], apart := false }
def RecBackSaid : Prop := recBackRow.holds Try.pinned (OpenSpec.ofChange recBackSpec)

/-- ITS FALSE NEIGHBOUR: 'it returns false'. Refute it at one input. -/
def recBackWrong : ChangeSpec := { name := "recBack", fn := fun _ => fun
  | [d1, d2] => { results := [.lit (.bool false)], args := [d1, d2] }
  | _ => none }
def RecBackWrongFalsely : Prop := recBackRow.holds Try.pinned (OpenSpec.ofChange recBackWrong)

/-- 'hawserlaw05.RecCut': WHATEVER THE INPUT: true; the input reads as it did. -/
def recCutSpec : ChangeSpec := { name := "recCut", fn := fun _ => fun
  | [d1, d2] => { results := [.lit (.bool true)], args := [d1, d2] }
  | _ => none }
def recCutRow : OpenClaim := { program := "ytfddhhaecfjepaa", sum := "db48ad8bf7d5caffee2e775febcafa5004b59fc2e437af5285792791fd2c5df3", func := "hawser/hawserlaw05.RecCut", spec := "recCut", inPlace := ["internal/abi.NoEscape"], apart := false }
def RecCutSaid : Prop := recCutRow.holds Try.pinned (OpenSpec.ofChange recCutSpec)

/-- ITS FALSE NEIGHBOUR: 'it returns false'. Refute it at one input. -/
def recCutWrong : ChangeSpec := { name := "recCut", fn := fun _ => fun
  | [d1, d2] => { results := [.lit (.bool false)], args := [d1, d2] }
  | _ => none }
def RecCutWrongFalsely : Prop := recCutRow.holds Try.pinned (OpenSpec.ofChange recCutWrong)

/- THE SECOND FORM. 'bulk': how many values and letters a reading holds, each counted each time it is reached (what is shared counts as often as it is met; a slice's spare places count too). A statement '..UptoSaid' is the law's where the arguments, and the package variables that the reading takes, are together of bulk at most 1048576: NARROWER than '..Said'. Prove '..Said' where nothing that the law and all that it calls make is longer than what came in: it says more and counts as full. Else prove '..UptoSaid'. A law counts once. -/
mutual
def uptoBulk {H : Type} : DataW H → Nat
  | .lit (.string bytes) => bytes.length + 1
  | .lit _ => 1
  | .nil => 1
  | .ptr d => uptoBulk d + 1
  | .slice elems spare => uptoBulkAll elems + uptoBulkAll spare + 1
  | .agg parts => uptoBulkAll parts + 1
  | .iface _ d => uptoBulk d + 1
  | .map entries => uptoBulkEntries entries + 1
  | .held _ => 1
def uptoBulkAll {H : Type} : List (DataW H) → Nat
  | [] => 0
  | d :: r => uptoBulk d + uptoBulkAll r
def uptoBulkEntries {H : Type} : List (Lit × DataW H) → Nat
  | [] => 0
  | x :: r => uptoBulkEntry x + uptoBulkEntries r
def uptoBulkEntry {H : Type} : Lit × DataW H → Nat
  | (.string bytes, d) => bytes.length + uptoBulk d + 1
  | (_, d) => uptoBulk d + 1
 end
def uptoSmall : (H : Type) → List (DataW H) → Bool := fun _ ds => decide (uptoBulkAll ds ≤ 1048576)
def OpenSpec.upto (s : _root_.Go.ChangeSpec) : _root_.Go.OpenSpec := { _root_.Go.OpenSpec.ofChange s with cond := some uptoSmall }

/-- 'hawserlaw05.RecTurned', WHERE WHAT IT READS IS OF BULK AT MOST 1048576: true; the input reads as it did. -/
def recTurnedUptoRow : OpenClaim := { program := "ytfddhhaecfjepaa", sum := "db48ad8bf7d5caffee2e775febcafa5004b59fc2e437af5285792791fd2c5df3", func := "hawser/hawserlaw05.RecTurned", spec := "recTurned", apart := false, narrowed := true }
def RecTurnedUptoSaid : Prop := recTurnedUptoRow.holds Try.pinned (OpenSpec.upto recTurnedSpec)

/-- 'hawserlaw05.RecReads', WHERE WHAT IT READS IS OF BULK AT MOST 1048576: true; the input reads as it did. -/
def recReadsUptoRow : OpenClaim := { program := "ytfddhhaecfjepaa", sum := "db48ad8bf7d5caffee2e775febcafa5004b59fc2e437af5285792791fd2c5df3", func := "hawser/hawserlaw05.RecReads", spec := "recReads", apart := false, narrowed := true }
def RecReadsUptoSaid : Prop := recReadsUptoRow.holds Try.pinned (OpenSpec.upto recReadsSpec)

/-- 'hawserlaw05.RecPacks', WHERE WHAT IT READS IS OF BULK AT MOST 1048576: true; the input reads as it did. -/
def recPacksUptoRow : OpenClaim := { program := "ytfddhhaecfjepaa", sum := "db48ad8bf7d5caffee2e775febcafa5004b59fc2e437af5285792791fd2c5df3", func := "hawser/hawserlaw05.RecPacks", spec := "recPacks", inPlace := ["internal/abi.NoEscape"], apart := false, narrowed := true }
def RecPacksUptoSaid : Prop := recPacksUptoRow.holds Try.pinned (OpenSpec.upto recPacksSpec)

/-- 'hawserlaw05.RecBack', WHERE WHAT IT READS IS OF BULK AT MOST 1048576: true; the input reads as it did. -/
def recBackUptoRow : OpenClaim := { program := "ytfddhhaecfjepaa", sum := "db48ad8bf7d5caffee2e775febcafa5004b59fc2e437af5285792791fd2c5df3", func := "hawser/hawserlaw05.RecBack", spec := "recBack", inPlace := ["internal/abi.NoEscape"], apart := false, narrowed := true }
def RecBackUptoSaid : Prop := recBackUptoRow.holds Try.pinned (OpenSpec.upto recBackSpec)

/-- 'hawserlaw05.RecCut', WHERE WHAT IT READS IS OF BULK AT MOST 1048576: true; the input reads as it did. -/
def recCutUptoRow : OpenClaim := { program := "ytfddhhaecfjepaa", sum := "db48ad8bf7d5caffee2e775febcafa5004b59fc2e437af5285792791fd2c5df3", func := "hawser/hawserlaw05.RecCut", spec := "recCut", inPlace := ["internal/abi.NoEscape"], apart := false, narrowed := true }
def RecCutUptoSaid : Prop := recCutUptoRow.holds Try.pinned (OpenSpec.upto recCutSpec)

end Rows
end Go.Proofs.Ytfddhhaecfjepaa
