/- Plain laws of the sum that rolls: no program in sight. -/
import Derived.Laws.BitsAllLaws
import Derived.Laws.BitsLemmas
namespace Go.Proofs.Ytgohhhfnffhgmaa.Plain

/-- the sum of the bytes; and the sum of the sums -/
def wA : List UInt8 → Nat
  | [] => 0
  | c :: l => c.toNat + wA l
def wB : List UInt8 → Nat
  | [] => 0
  | c :: l => (l.length + 1) * c.toNat + wB l
def weak (s : List UInt8) : Nat := wA s % 65536 + 65536 * (wB s % 65536)
/-- one byte on -/
def roll (w : Nat) (n : Int) (out inn : Nat) : Nat :=
  (((w : Int) - out + inn) % 65536).toNat + 65536 * ((((w / 65536 : Nat) : Int) - n * out + ((w : Int) - out + inn)) % 65536).toNat

theorem weak_lt (s : List UInt8) : weak s < 4294967296 := by unfold weak; omega
theorem roll_lt (w : Nat) (n : Int) (out inn : Nat) : roll w n out inn < 4294967296 := by unfold roll; omega
theorem wA_snoc (l : List UInt8) (c : UInt8) : wA (l ++ [c]) = wA l + c.toNat := by
  induction l with
  | nil => simp [wA]
  | cons d l ih => simp only [List.cons_append, wA, ih]; omega
theorem wB_snoc (l : List UInt8) (c : UInt8) : wB (l ++ [c]) = wB l + wA l + c.toNat := by
  induction l with
  | nil => simp [wA, wB]
  | cons d l ih =>
    simp only [List.cons_append, wA, wB, ih, List.length_append, List.length_singleton, Nat.add_mul]
    omega
theorem roll_weak (l : List UInt8) (c d : UInt8) : roll (weak (c :: l)) ((l.length + 1 : Nat) : Int) c.toNat d.toNat = weak (l ++ [d]) := by
  have h1 := wA_snoc l d
  have h2 := wB_snoc l d
  have e1 : wA (c :: l) = c.toNat + wA l := rfl
  have e2 : wB (c :: l) = (l.length + 1) * c.toNat + wB l := rfl
  unfold roll weak
  rw [h1, h2, e1, e2]
  have e3 : (((l.length + 1 : Nat) : Int) * (c.toNat : Int)) = (((l.length + 1) * c.toNat : Nat) : Int) := by push_cast; rfl
  rw [e3]
  generalize (l.length + 1) * c.toNat = P
  generalize wA l = A
  generalize wB l = B
  generalize c.toNat = C
  generalize d.toNat = D
  omega
end Go.Proofs.Ytgohhhfnffhgmaa.Plain
