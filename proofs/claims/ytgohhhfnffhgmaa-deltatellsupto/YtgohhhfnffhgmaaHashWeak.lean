/- The sum that rolls: hash.Weak and hash.Roll. -/
import Derived.Test.YtgohhhfnffhgmaaLib
import Derived.Test.YtgohhhfnffhgmaaPlainWeak
namespace Go.Proofs.Ytgohhhfnffhgmaa
open Go.RowKit Plain

theorem join_go (a b : Nat) (ha : a < 4294967296) (_hb : b < 4294967296) :
    Go.bits .or .u32 (Go.bits .and .u32 (a : Int) 65535) ((b : Int) * 65536 % 4294967296) = ((a % 65536 + 65536 * (b % 65536) : Nat) : Int) := by
  rw [show (65535 : Int) = ((65535 : Nat) : Int) by rfl, u32_and_nat _ _ ha (by omega), show (b : Int) * 65536 % 4294967296 = ((65536 * (b % 65536) : Nat) : Int) by omega]
  have h1 : a &&& 65535 = a % 65536 := by have := Nat.and_two_pow_sub_one_eq_mod a 16; simpa using this
  rw [h1, u32_or_nat _ _ (by omega) (by omega)]
  congr 1
  have := Nat.two_pow_add_eq_or_of_lt (i := 16) (b := a % 65536) (by omega) (b % 65536)
  rw [Nat.or_comm, show 65536 * (b % 65536) = 2 ^ 16 * (b % 65536) by omega, ← this]; omega

theorem roll_go (v : Nat) (n : Int) (out inn : Nat) :
    Go.bits .or .u32 (Go.bits .and .u32 (((v : Int) - out + inn) % 4294967296) 65535) (((v : Int) / 65536 - n % 4294967296 * out + ((v : Int) - out + inn)) % 4294967296 * 65536 % 4294967296) = (roll v n out inn : Nat) := by
  have hp : n % 4294967296 * (out : Int) = n * out - 4294967296 * (n / 4294967296 * out) := by
    rw [Int.emod_def, Int.sub_mul, Int.mul_assoc]
  rw [hp]
  unfold roll
  generalize n / 4294967296 * (out : Int) = q
  generalize n * (out : Int) = p
  obtain ⟨A, hA⟩ := Int.eq_ofNat_of_zero_le (show 0 ≤ ((v : Int) - out + inn) % 4294967296 by omega)
  obtain ⟨B, hB⟩ := Int.eq_ofNat_of_zero_le (show 0 ≤ ((v : Int) / 65536 - (p - 4294967296 * q) + ((v : Int) - out + inn)) % 4294967296 by omega)
  rw [hA, hB, join_go A B (by omega) (by omega)]
  congr 1
  omega

set_option maxHeartbeats 400000 in
theorem Weak_any (s : List UInt8) (w : World) (hs : s.length ≤ 9223372036854775807) :
    Calls Try.prog 17 #[.string ⟨s.toArray⟩] w (Ret w (.int .u32 (weak s : Nat))) := by
  go_enter Try.func17, Try.ntmps17
  go_wp2_with (fail)
  go_loop [3, 4, 5, 8] (fun t3 t4 _ t8 => ∃ k : Nat, k ≤ s.length ∧ t8 = .int .i64 k ∧ t3 = .int .u32 ((wA (s.take k) % 4294967296 : Nat) : Int) ∧ t4 = .int .u32 ((wB (s.take k) % 4294967296 : Nat) : Int)) (fun _ _ _ t8 => s.length - (intOf t8).toNat)
  case atStart => exact ⟨0, by omega, rfl, rfl, rfl⟩
  case round =>
    obtain ⟨k, hk, rfl, rfl, rfl⟩ := hrel
    by_cases hlt : k < s.length
    · have h1 := wA_snoc (s.take k) s[k]
      have h2 := wB_snoc (s.take k) s[k]
      rw [← List.take_succ_eq_append_getElem hlt] at h1 h2
      have hc := s[k].toNat_lt
      have hx := Nat.mod_lt (wA (s.take k)) (show 0 < 4294967296 by omega)
      have hy := Nat.mod_lt (wB (s.take k)) (show 0 < 4294967296 by omega)
      have f1 : wA (s.take (k + 1)) % 4294967296 = (wA (s.take k) % 4294967296 + s[k].toNat) % 4294967296 := by omega
      have f2 : wB (s.take (k + 1)) % 4294967296 = (wB (s.take k) % 4294967296 + (wA (s.take k) % 4294967296 + s[k].toNat) % 4294967296) % 4294967296 := by omega
      generalize wA (s.take k) % 4294967296 = a at *
      generalize wB (s.take k) % 4294967296 = b at *
      generalize hci : s[k] = c at *
      have F1 := Lib.hid f1
      have F2 := Lib.hid f2
      clear h1 h2 f1 f2
      go_wp2_with (fail)
      go_round
      case rel => exact ⟨k + 1, by omega, by go_num, by rw [F1.out]; first | rfl | (congr 1; omega), by rw [F2.out]; first | rfl | (congr 1; omega)⟩
      case measure => simp [intOf]; omega
    · obtain rfl : k = s.length := by omega
      have hj := join_go (wA s % 4294967296) (wB s % 4294967296) (Nat.mod_lt _ (by omega)) (Nat.mod_lt _ (by omega))
      rw [List.take_of_length_le (Nat.le_refl _)]
      have HJ := Lib.hid hj
      clear hj
      go_wp2_with (fail)
      go_ret
      refine ⟨?_, Below.refl _ _⟩
      exact ret_int (HJ.out.trans (by unfold weak; omega))

set_option maxHeartbeats 400000 in
theorem Roll_any (v : Nat) (n : Int) (out inn : Nat) (w : World) (_hv : v < 4294967296) (ho : out < 256) (hi : inn < 256) (_hn : -9223372036854775808 ≤ n) (_hn2 : n ≤ 9223372036854775807) :
    Calls Try.prog 35 #[.int .u32 v, .int .i64 n, .int .u8 out, .int .u8 inn] w (Ret w (.int .u32 (roll v n out inn : Nat))) := by
  go_enter Try.func35, Try.ntmps35
  go_wp2_with (fail)
  go_ret
  refine ⟨?_, Below.refl _ _⟩
  exact ret_int (roll_go v n out inn)
end Go.Proofs.Ytgohhhfnffhgmaa
