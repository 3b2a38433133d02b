/- A number grows by seven bits. -/
import Derived.Test.YtknoedlelmflhaaCode1
namespace Go.Proofs.Ytknoedlelmflhaa
open Go.RowKit Plain
theorem ofInt_63 (a : Nat) (ha : a < 9223372036854775808) : (BitVec.ofInt 64 (a : Int)).toNat = a := by
  rw [BitVec.ofInt_natCast, BitVec.toNat_ofNat]; exact Nat.mod_eq_of_lt (by omega)
theorem i64_or_nat (a b : Nat) (ha : a < 9223372036854775808) (hb : b < 9223372036854775808) : Go.bits .or .i64 (a : Int) (b : Int) = ((a ||| b : Nat) : Int) := by
  have hx : a ||| b < 2 ^ 63 := Nat.or_lt_two_pow (by omega) (by omega)
  show IntKind.i64.wrap ((BitVec.ofInt 64 (a : Int) ||| BitVec.ofInt 64 (b : Int)).toNat : Int) = _
  rw [BitVec.toNat_or, ofInt_63 a ha, ofInt_63 b hb]
  simp [IntKind.wrap, IntKind.bits, IntKind.signed]
  omega
theorem pow7 (i : Nat) : 2 ^ (7 * i) = 128 ^ i := by rw [Nat.pow_mul]
theorem or_grow (acc d i : Nat) (ha : acc < 128 ^ i) (hd : d < 128) (hi : i ≤ 8) : Go.bits .or .i64 (acc : Int) (wrap64 ((d : Int) * 2 ^ (7 * i))) = ((acc + d * 128 ^ i : Nat) : Int) := by
  have h1 : (d : Int) * 2 ^ (7 * i) = ((d * 128 ^ i : Nat) : Int) := by
    rw [← pow7]; push_cast; rfl
  have h2 : 128 ^ i ≤ 128 ^ 8 := Nat.pow_le_pow_right (by omega) hi
  have h3 : d * 128 ^ i ≤ 127 * 128 ^ 8 := Nat.mul_le_mul (by omega) h2
  have h4 : wrap64 ((d * 128 ^ i : Nat) : Int) = ((d * 128 ^ i : Nat) : Int) := by unfold wrap64; omega
  rw [h1, h4, i64_or_nat _ _ (by omega) (by omega)]
  congr 1
  rw [← pow7, Nat.or_comm, Nat.mul_comm, ← Nat.two_pow_add_eq_or_of_lt (by rw [pow7]; exact ha)]
  omega
end Go.Proofs.Ytknoedlelmflhaa
