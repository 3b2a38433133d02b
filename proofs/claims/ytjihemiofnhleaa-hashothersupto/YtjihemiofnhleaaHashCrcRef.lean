import Derived.Test.YtjihemiofnhleaaLib
import Derived.Test.YtjihemiofnhleaaPlain04
namespace Go.Proofs.Ytjihemiofnhleaa
open Go.RowKit Plain

set_option maxHeartbeats 400000 in
theorem Crc_ref (s : List UInt8) (w : World) (hs : s.length ≤ 9223372036854775807) :
    Calls Try.prog 16 #[.string ⟨s.toArray⟩] w (Ret w (.int .u32 (crc s))) := by
  go_enter Try.func16, Try.ntmps16
  go_wp2_with (fail)
  go_loop [3, 4, 5] (fun t3 t4 _ => ∃ i : Nat, i ≤ s.length ∧ t4 = .int .i64 i ∧ t3 = .int .u32 (crcRun (s.take i) : Nat)) (fun _ t4 _ => s.length - (intOf t4).toNat)
  case atStart => exact ⟨0, by omega, rfl, rfl⟩
  case round =>
    obtain ⟨i, hi, rfl, rfl⟩ := hrel
    have hv := crcRun_lt (s.take i)
    by_cases hlt : i < s.length
    · have hstep : crcRun (s.take (i + 1)) = bits1 8 (crcRun (s.take i) ^^^ s[i].toNat) := by
        unfold crcRun
        rw [List.take_succ_eq_append_getElem hlt, List.foldl_append]
        rfl
      have hc : s[i].toNat < 256 := s[i].toNat_lt
      have e1 := u32_xor_nat (crcRun (s.take i)) s[i].toNat hv (by omega)
      have hx := xor_lt hv (show s[i].toNat < 4294967296 by omega)
      generalize hxx : crcRun (s.take i) ^^^ s[i].toNat = x at *
      have HS := Lib.hid hstep
      have HX := Lib.hid hxx
      clear hstep hxx
      generalize crcRun (s.take i) = v at *
      generalize hci : s[i] = c at *
      go_wp2_with (fail)
      go_loop [3, 5] (fun t3 t5 => ∃ j : Nat, j ≤ 8 ∧ t5 = .int .i64 j ∧ t3 = .int .u32 (bits1 j x : Nat)) (fun _ t5 => 8 - (intOf t5).toNat)
      case atStart => exact ⟨0, by omega, rfl, rfl⟩
      case round =>
        obtain ⟨j, hj, rfl, rfl⟩ := hrel
        have hb := bits1_lt (n := j) hx
        by_cases hlt : j < 8
        · generalize hy : bits1 j x = y at *
          have HY := Lib.hid hy
          clear hy
          rcases Nat.mod_two_eq_zero_or_one y with h2 | h2
          · have hB : ((y : Int) % 2 == 1) = false := by rw [show (y : Int) % 2 = 0 by omega]; rfl
            have H2 := Lib.hid h2
            clear h2
            go_wp2_with (fail)
            go_round
            case rel => exact ⟨j + 1, by omega, by go_num, by rw [bit1_ref0 y H2.out, ← HY.out]; rfl⟩
            case measure => simp [intOf]; omega
          · have hB : ((y : Int) % 2 == 1) = true := by rw [show (y : Int) % 2 = 1 by omega]; rfl
            have H2 := Lib.hid h2
            clear h2
            go_wp2_with (fail)
            go_round
            case rel => exact ⟨j + 1, by omega, by go_num, by rw [bit1_ref1 y hb H2.out, ← HY.out]; rfl⟩
            case measure => simp [intOf]; omega
        · obtain rfl : j = 8 := by omega
          go_wp2_with (fail)
          go_round
          case rel => exact ⟨i + 1, by omega, by go_num, by rw [HS.out]⟩
          case measure => simp [intOf]; omega
    · obtain rfl : i = s.length := by omega
      go_wp2_with (fail)
      go_ret
      refine ⟨?_, Below.refl _ _⟩
      have h := u32_xor_nat (crcRun s) 4294967295 (crcRun_lt s) (by omega)
      simp only [Array.getD_eq_getD_getElem?, List.getElem?_toArray, List.getElem?_cons_succ, List.getElem?_cons_zero, Option.getD_some]
      exact ret_int h
end Go.Proofs.Ytjihemiofnhleaa
