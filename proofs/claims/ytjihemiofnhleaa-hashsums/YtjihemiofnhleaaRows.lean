/-
  No cell of these rows narrows 'for every input' (looked for: loops, veiled, ifaces, maps, wideKeys, modest, calm, conditions, laid).
  DERIVED. THE GIVEN ROWS OF THIS SEAT. 5 by the template 'for every input the law returns true; each argument reads behind the call as it read before'; 0 by the template 'total and deterministic' (their statements: YtjihemiofnhleaaTotals.lean).
  GIVEN WITH THE SEED: the statements are not yours to turn. If you find one false, say at which input.
  Laid BY PROGRAM, IN A SANDBOX (cutbox-rows.mjs): the forced cells as the released guide's own fill.sh prints them over the translation 2b65b4f3b0d359cc… (all of the seat's roots in one cut). By AI agents, Wed Nov 11 2026. No macro, syntax, notation, axiom, sorry.
-/
import Derived.Test.YtjihemiofnhleaaChecked
import GoSem.Claim
import GoSem.ClaimJoined
import GoSem.ClaimMapViews
import Derived.JoinedTies
import Derived.KernelRfl
namespace Go.Proofs.Ytjihemiofnhleaa
/- THE CELL 'sum', in the pinned program and in every row, IS THE sha256 OF THE DUMP (.gsa) THAT YtjihemiofnhleaaProg.lean LOADS. Nothing in Lean hashes anything: it is a label: what it is worth is what the hold of that sum in a sandbox is worth. -/
noncomputable def Try.pinned : Pinned := { name := "ytjihemiofnhleaa", sum := "2b65b4f3b0d359cc62f751b61ee1fc4ab2e1c946b8eae682cf388266f0097e7b", checked := Try.checked }
namespace Rows
def none {H : Type} : Left H := { results := [], args := [] }

/-- 'hawserlaw04.HashSums': WHATEVER THE INPUT: true; the input reads as it did. -/
def hashSumsSpec : ChangeSpec := { name := "hashSums", fn := fun _ => fun
  | [d] => { results := [.lit (.bool true)], args := [d] }
  | _ => none }
def hashSumsRow : OpenClaim := { program := "ytjihemiofnhleaa", sum := "2b65b4f3b0d359cc62f751b61ee1fc4ab2e1c946b8eae682cf388266f0097e7b", func := "hawser/hawserlaw04.HashSums", spec := "hashSums", inPlace := ["internal/abi.NoEscape", "internal/bytealg.MakeNoZero"], apart := false }
def HashSumsSaid : Prop := hashSumsRow.holds Try.pinned (OpenSpec.ofChange hashSumsSpec)

/-- ITS FALSE NEIGHBOUR: 'it returns false'. Refute it at one input. -/
def hashSumsWrong : ChangeSpec := { name := "hashSums", fn := fun _ => fun
  | [d] => { results := [.lit (.bool false)], args := [d] }
  | _ => none }
def HashSumsWrongFalsely : Prop := hashSumsRow.holds Try.pinned (OpenSpec.ofChange hashSumsWrong)

/-- 'hawserlaw04.HashTurned': WHATEVER THE INPUT: true; the input reads as it did. -/
def hashTurnedSpec : ChangeSpec := { name := "hashTurned", fn := fun _ => fun
  | [d1, d2, d3] => { results := [.lit (.bool true)], args := [d1, d2, d3] }
  | _ => none }
def hashTurnedRow : OpenClaim := { program := "ytjihemiofnhleaa", sum := "2b65b4f3b0d359cc62f751b61ee1fc4ab2e1c946b8eae682cf388266f0097e7b", func := "hawser/hawserlaw04.HashTurned", spec := "hashTurned", inPlace := ["internal/abi.NoEscape", "internal/bytealg.MakeNoZero"], apart := false }
def HashTurnedSaid : Prop := hashTurnedRow.holds Try.pinned (OpenSpec.ofChange hashTurnedSpec)

/-- ITS FALSE NEIGHBOUR: 'it returns false'. Refute it at one input. -/
def hashTurnedWrong : ChangeSpec := { name := "hashTurned", fn := fun _ => fun
  | [d1, d2, d3] => { results := [.lit (.bool false)], args := [d1, d2, d3] }
  | _ => none }
def HashTurnedWrongFalsely : Prop := hashTurnedRow.holds Try.pinned (OpenSpec.ofChange hashTurnedWrong)

/-- 'hawserlaw04.HashSame': WHATEVER THE INPUT: true; the input reads as it did. -/
def hashSameSpec : ChangeSpec := { name := "hashSame", fn := fun _ => fun
  | [d] => { results := [.lit (.bool true)], args := [d] }
  | _ => none }
def hashSameRow : OpenClaim := { program := "ytjihemiofnhleaa", sum := "2b65b4f3b0d359cc62f751b61ee1fc4ab2e1c946b8eae682cf388266f0097e7b", func := "hawser/hawserlaw04.HashSame", spec := "hashSame", inPlace := ["internal/abi.NoEscape", "internal/bytealg.MakeNoZero"], apart := false }
def HashSameSaid : Prop := hashSameRow.holds Try.pinned (OpenSpec.ofChange hashSameSpec)

/-- ITS FALSE NEIGHBOUR: 'it returns false'. Refute it at one input. -/
def hashSameWrong : ChangeSpec := { name := "hashSame", fn := fun _ => fun
  | [d] => { results := [.lit (.bool false)], args := [d] }
  | _ => none }
def HashSameWrongFalsely : Prop := hashSameRow.holds Try.pinned (OpenSpec.ofChange hashSameWrong)

/-- 'hawserlaw04.HashRolls': WHATEVER THE INPUT: true; the input reads as it did. -/
def hashRollsSpec : ChangeSpec := { name := "hashRolls", fn := fun _ => fun
  | [d1, d2] => { results := [.lit (.bool true)], args := [d1, d2] }
  | _ => none }
def hashRollsRow : OpenClaim := { program := "ytjihemiofnhleaa", sum := "2b65b4f3b0d359cc62f751b61ee1fc4ab2e1c946b8eae682cf388266f0097e7b", func := "hawser/hawserlaw04.HashRolls", spec := "hashRolls", inPlace := ["internal/abi.NoEscape", "internal/bytealg.MakeNoZero"], apart := false }
def HashRollsSaid : Prop := hashRollsRow.holds Try.pinned (OpenSpec.ofChange hashRollsSpec)

/-- ITS FALSE NEIGHBOUR: 'it returns false'. Refute it at one input. -/
def hashRollsWrong : ChangeSpec := { name := "hashRolls", fn := fun _ => fun
  | [d1, d2] => { results := [.lit (.bool false)], args := [d1, d2] }
  | _ => none }
def HashRollsWrongFalsely : Prop := hashRollsRow.holds Try.pinned (OpenSpec.ofChange hashRollsWrong)

/-- 'hawserlaw04.HashOthers': WHATEVER THE INPUT: true; the input reads as it did. -/
def hashOthersSpec : ChangeSpec := { name := "hashOthers", fn := fun _ => fun
  | [d1, d2, d3] => { results := [.lit (.bool true)], args := [d1, d2, d3] }
  | _ => none }
def hashOthersRow : OpenClaim := { program := "ytjihemiofnhleaa", sum := "2b65b4f3b0d359cc62f751b61ee1fc4ab2e1c946b8eae682cf388266f0097e7b", func := "hawser/hawserlaw04.HashOthers", spec := "hashOthers", inPlace := ["internal/abi.NoEscape", "internal/bytealg.MakeNoZero"], apart := false }
def HashOthersSaid : Prop := hashOthersRow.holds Try.pinned (OpenSpec.ofChange hashOthersSpec)

/-- ITS FALSE NEIGHBOUR: 'it returns false'. Refute it at one input. -/
def hashOthersWrong : ChangeSpec := { name := "hashOthers", fn := fun _ => fun
  | [d1, d2, d3] => { results := [.lit (.bool false)], args := [d1, d2, d3] }
  | _ => none }
def HashOthersWrongFalsely : Prop := hashOthersRow.holds Try.pinned (OpenSpec.ofChange hashOthersWrong)

/- THE SECOND FORM. 'bulk': how many values and letters a reading holds, each counted each time it is reached (what is shared counts as often as it is met; a slice's spare places count too). A statement '..UptoSaid' is the law's where the arguments, and the package variables that the reading takes, are together of bulk at most 1048576: NARROWER than '..Said'. Prove '..Said' where nothing that the law and all that it calls make is longer than what came in: it says more and counts as full. Else prove '..UptoSaid'. A law counts once. -/
mutual
def uptoBulk {H : Type} : DataW H → Nat
  | .lit (.string bytes) => bytes.length + 1
  | .lit _ => 1
  | .nil => 1
  | .ptr d => uptoBulk d + 1
  | .slice elems spare => uptoBulkAll elems + uptoBulkAll spare + 1
  | .agg parts => uptoBulkAll parts + 1
  | .iface _ d => uptoBulk d + 1
  | .map entries => uptoBulkEntries entries + 1
  | .held _ => 1
def uptoBulkAll {H : Type} : List (DataW H) → Nat
  | [] => 0
  | d :: r => uptoBulk d + uptoBulkAll r
def uptoBulkEntries {H : Type} : List (Lit × DataW H) → Nat
  | [] => 0
  | x :: r => uptoBulkEntry x + uptoBulkEntries r
def uptoBulkEntry {H : Type} : Lit × DataW H → Nat
  | (.string bytes, d) => bytes.length + uptoBulk d + 1
  | (_, d) => uptoBulk d + 1
 end
def uptoSmall : (H : Type) → List (DataW H) → Bool := fun _ ds => decide (uptoBulkAll ds ≤ 1048576)
def OpenSpec.upto (s : _root_.Go.ChangeSpec) : _root_.Go.OpenSpec := { _root_.Go.OpenSpec.ofChange s with cond := some uptoSmall }

/-- 'hawserlaw04.HashSums', WHERE WHAT IT READS IS OF BULK AT MOST 1048576: true; the input reads as it did. -/
def hashSumsUptoRow : OpenClaim := { program := "ytjihemiofnhleaa", sum := "2b65b4f3b0d359cc62f751b61ee1fc4ab2e1c946b8eae682cf388266f0097e7b", func := "hawser/hawserlaw04.HashSums", spec := "hashSums", inPlace := ["internal/abi.NoEscape", "internal/bytealg.MakeNoZero"], apart := false, narrowed := true }
def HashSumsUptoSaid : Prop := hashSumsUptoRow.holds Try.pinned (OpenSpec.upto hashSumsSpec)

/-- 'hawserlaw04.HashTurned', WHERE WHAT IT READS IS OF BULK AT MOST 1048576: true; the input reads as it did. -/
def hashTurnedUptoRow : OpenClaim := { program := "ytjihemiofnhleaa", sum := "2b65b4f3b0d359cc62f751b61ee1fc4ab2e1c946b8eae682cf388266f0097e7b", func := "hawser/hawserlaw04.HashTurned", spec := "hashTurned", inPlace := ["internal/abi.NoEscape", "internal/bytealg.MakeNoZero"], apart := false, narrowed := true }
def HashTurnedUptoSaid : Prop := hashTurnedUptoRow.holds Try.pinned (OpenSpec.upto hashTurnedSpec)

/-- 'hawserlaw04.HashSame', WHERE WHAT IT READS IS OF BULK AT MOST 1048576: true; the input reads as it did. -/
def hashSameUptoRow : OpenClaim := { program := "ytjihemiofnhleaa", sum := "2b65b4f3b0d359cc62f751b61ee1fc4ab2e1c946b8eae682cf388266f0097e7b", func := "hawser/hawserlaw04.HashSame", spec := "hashSame", inPlace := ["internal/abi.NoEscape", "internal/bytealg.MakeNoZero"], apart := false, narrowed := true }
def HashSameUptoSaid : Prop := hashSameUptoRow.holds Try.pinned (OpenSpec.upto hashSameSpec)

/-- 'hawserlaw04.HashRolls', WHERE WHAT IT READS IS OF BULK AT MOST 1048576: true; the input reads as it did. -/
def hashRollsUptoRow : OpenClaim := { program := "ytjihemiofnhleaa", sum := "2b65b4f3b0d359cc62f751b61ee1fc4ab2e1c946b8eae682cf388266f0097e7b", func := "hawser/hawserlaw04.HashRolls", spec := "hashRolls", inPlace := ["internal/abi.NoEscape", "internal/bytealg.MakeNoZero"], apart := false, narrowed := true }
def HashRollsUptoSaid : Prop := hashRollsUptoRow.holds Try.pinned (OpenSpec.upto hashRollsSpec)

/-- 'hawserlaw04.HashOthers', WHERE WHAT IT READS IS OF BULK AT MOST 1048576: true; the input reads as it did. -/
def hashOthersUptoRow : OpenClaim := { program := "ytjihemiofnhleaa", sum := "2b65b4f3b0d359cc62f751b61ee1fc4ab2e1c946b8eae682cf388266f0097e7b", func := "hawser/hawserlaw04.HashOthers", spec := "hashOthers", inPlace := ["internal/abi.NoEscape", "internal/bytealg.MakeNoZero"], apart := false, narrowed := true }
def HashOthersUptoSaid : Prop := hashOthersUptoRow.holds Try.pinned (OpenSpec.upto hashOthersSpec)

end Rows
end Go.Proofs.Ytjihemiofnhleaa
