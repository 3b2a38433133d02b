/- line.Carry: what comes at the other end. -/
import Derived.Test.YtpkdnhkmoojplaaLine1
namespace Go.Proofs.Ytpkdnhkmoojplaa
open Go.RowKit Plain

set_option maxHeartbeats 400000 in
theorem Carry_any (s : List UInt8) (cut flip : Int) (d : Nat) (w : World) (hs : s.length ≤ 140737488355328) (hd : d < 256) (hc : cut ≤ 9223372036854775807) :
    Calls Try.prog 9 #[.string ⟨s.toArray⟩, .agg #[.int .i64 cut, .int .i64 flip, .int .u8 d]] w (Ret w (.string ⟨(carry s cut flip d).toArray⟩)) := by
  obtain ⟨cap, C, m0, hconv, hcap, hCs, rfl, hC⟩ := conv_bytes (P := Try.prog) (w.alloc (.cells #[.int .i64 cut, .int .i64 flip, .int .u8 d] 24)) 9 43 5 Try.underlying9 Try.underlying43 Try.underlying5 s
  have hsz : (w.alloc (.cells #[.int .i64 cut, .int .i64 flip, .int .u8 d] 24)).heap.size = w.heap.size + 1 := by simp
  have hblk := heap_alloc_new (w.alloc (.cells #[.int .i64 cut, .int .i64 flip, .int .u8 d] 24)) (.cells C 5 (cap, cap + 1))
  rw [hsz] at hconv hblk
  have hbel : Below w.heap.size w ((w.alloc (.cells #[.int .i64 cut, .int .i64 flip, .int .u8 d] 24)).alloc (.cells C 5 (cap, cap + 1))).drew :=
    (((Below.refl _ _).alloc (Nat.le_refl _) _).alloc (by simp) _).drew
  have HCONV := Lib.hid hconv
  have HC := Lib.hid hC
  have HBLK := Lib.hid hblk
  clear hconv hC hsz hblk
  by_cases hf : 0 ≤ flip ∧ flip < s.length
  · obtain ⟨f, rfl⟩ := Int.eq_ofNat_of_zero_le hf.1
    have hfl : f < s.length := by omega
    have hx : s[f].toNat ^^^ d < 256 := by
      have := Nat.xor_lt_two_pow (n := 8) (x := s[f].toNat) (y := d) (s[f].toNat_lt) (by omega); omega
    have hxor := u8_xor_nat s[f].toNat d (s[f].toNat_lt) hd
    have hmid : (if (f : Int) < 0 then s else turnAt s (f : Int).toNat d) = s.set f (UInt8.ofNat (s[f].toNat ^^^ d)) := by
      rw [if_neg (by omega), Int.toNat_natCast, turnAt_in hfl]
    have hcell : ((w.alloc (.cells #[.int .i64 cut, .int .i64 (f : Int), .int .u8 d] 24)).alloc (.cells C 5 (cap, cap + 1))).cell? ⟨w.heap.size + 1, f, none⟩ = some (.int .u8 (s[f].toNat : Int)) := by
      rw [cell_of_row _ _ _ C 5 (cap, cap + 1) HBLK.out]; exact HC.out f hfl
    have hfz : ((w.alloc (.cells #[.int .i64 cut, .int .i64 (f : Int), .int .u8 d] 24)).alloc (.cells C 5 (cap, cap + 1))).frozen? ⟨w.heap.size + 1, f, none⟩ = false := by
      have h := frozen_laid (w.alloc (.cells #[.int .i64 cut, .int .i64 (f : Int), .int .u8 d] 24)) C 5 cap f (by omega)
      simpa using h
    have hi : (f : Int) < s.length := by omega
    generalize hm : s.set f (UInt8.ofNat (s[f].toNat ^^^ d)) = m at *
    have hml : m.length = s.length := by rw [← hm]; simp
    have HML := Lib.hid hml
    have HM := Lib.hid hm
    generalize hxx : s[f].toNat ^^^ d = x at *
    generalize hcc : s[f] = c at *
    clear hm hxx hcc hml hf
    by_cases hcut : cut < 0
    · rw [carry_all hmid hcut]
      clear hmid
      go_enter Try.func9, Try.ntmps9
      go_wp2_with (fail)
      rw [HCONV.out]
      go_wp2_with (fail)
      go_region
      all_goals (go_wp2_with (fail))
      rw [conv_back (P := Try.prog) _ 43 9 5 Try.underlying43 Try.underlying5 Try.underlying9 m (w.heap.size + 1) s.length cap HML.out.symm (C.setIfInBounds f (.int .u8 (x : Int))) (cap, cap + 1) ?hb (bytes_set HC.out hfl hx HM.out)]
      case hb => exact heap_set HBLK.out f _
      go_wp2_with (fail)
      go_ret
      exact ⟨rfl, (hbel.setCell (p := ⟨w.heap.size + 1, f, none⟩) (by simp) _).drew⟩
    · obtain ⟨k, rfl⟩ := Int.eq_ofNat_of_zero_le (show 0 ≤ cut by omega)
      rw [carry_cut hmid (by omega)]
      clear hmid
      have hcut2 := hcut
      have hkl : (m.take k).length = min k s.length := by rw [List.length_take, HML.out]
      have HKL := Lib.hid hkl
      clear hkl
      go_enter Try.func9, Try.ntmps9
      go_wp2_with (fail)
      rw [HCONV.out]
      go_wp2_with (fail)
      go_region
      all_goals (go_wp2_with (fail))
      rw [conv_back (P := Try.prog) _ 43 9 5 Try.underlying43 Try.underlying5 Try.underlying9 (m.take k) (w.heap.size + 1) (min (k : Int) (s.length : Int)).toNat cap (by rw [HKL.out]; omega) (C.setIfInBounds f (.int .u8 (x : Int))) (cap, cap + 1) ?hb (bytes_take (bytes_set HC.out hfl hx HM.out) k)]
      case hb => exact heap_set HBLK.out f _
      go_wp2_with (fail)
      go_ret
      refine ⟨?_, (hbel.setCell (p := ⟨w.heap.size + 1, f, none⟩) (by simp) _).drew⟩
      rw [Int.toNat_natCast]
      rfl
  have hmid : (if flip < 0 then s else turnAt s flip.toNat d) = s := by
    by_cases h0 : flip < 0
    · rw [if_pos h0]
    · rw [if_neg h0, turnAt_out (by omega)]
  by_cases h0 : flip < 0
  · clear hf
    by_cases hcut : cut < 0
    · rw [carry_all hmid hcut]
      clear hmid
      go_enter Try.func9, Try.ntmps9
      go_wp2_with (fail)
      rw [HCONV.out]
      go_wp2_with (fail)
      rw [conv_back (P := Try.prog) _ 43 9 5 Try.underlying43 Try.underlying5 Try.underlying9 s (w.heap.size + 1) s.length cap rfl C (cap, cap + 1) ?hb HC.out]
      case hb => exact HBLK.out
      go_wp2_with (fail)
      go_ret
      exact ⟨rfl, hbel⟩
    · obtain ⟨k, rfl⟩ := Int.eq_ofNat_of_zero_le (show 0 ≤ cut by omega)
      rw [carry_cut hmid (by omega)]
      clear hmid
      have hkl : (s.take k).length = min k s.length := by rw [List.length_take]
      have HKL := Lib.hid hkl
      clear hkl
      go_enter Try.func9, Try.ntmps9
      go_wp2_with (fail)
      rw [HCONV.out]
      go_wp2_with (fail)
      rw [conv_back (P := Try.prog) _ 43 9 5 Try.underlying43 Try.underlying5 Try.underlying9 (s.take k) (w.heap.size + 1) (min (k : Int) (s.length : Int)).toNat cap (by rw [HKL.out]; omega) C (cap, cap + 1) ?hb (bytes_take HC.out k)]
      case hb => exact HBLK.out
      go_wp2_with (fail)
      go_ret
      refine ⟨?_, hbel⟩
      rw [Int.toNat_natCast]
      rfl
  · have h1 : (s.length : Int) ≤ flip := by omega
    have h2 : 0 ≤ flip := by omega
    clear hf h0
    by_cases hcut : cut < 0
    · rw [carry_all hmid hcut]
      clear hmid
      go_enter Try.func9, Try.ntmps9
      go_wp2_with (fail)
      rw [HCONV.out]
      go_wp2_with (fail)
      rw [conv_back (P := Try.prog) _ 43 9 5 Try.underlying43 Try.underlying5 Try.underlying9 s (w.heap.size + 1) s.length cap rfl C (cap, cap + 1) ?hb HC.out]
      case hb => exact HBLK.out
      go_wp2_with (fail)
      go_ret
      exact ⟨rfl, hbel⟩
    · obtain ⟨k, rfl⟩ := Int.eq_ofNat_of_zero_le (show 0 ≤ cut by omega)
      rw [carry_cut hmid (by omega)]
      clear hmid
      have hkl : (s.take k).length = min k s.length := by rw [List.length_take]
      have HKL := Lib.hid hkl
      clear hkl
      go_enter Try.func9, Try.ntmps9
      go_wp2_with (fail)
      rw [HCONV.out]
      go_wp2_with (fail)
      rw [conv_back (P := Try.prog) _ 43 9 5 Try.underlying43 Try.underlying5 Try.underlying9 (s.take k) (w.heap.size + 1) (min (k : Int) (s.length : Int)).toNat cap (by rw [HKL.out]; omega) C (cap, cap + 1) ?hb (bytes_take HC.out k)]
      case hb => exact HBLK.out
      go_wp2_with (fail)
      go_ret
      refine ⟨?_, hbel⟩
      rw [Int.toNat_natCast]
      rfl
end Go.Proofs.Ytpkdnhkmoojplaa
