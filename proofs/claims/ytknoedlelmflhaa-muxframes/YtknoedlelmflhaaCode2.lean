/- (*code.bytes).number: the number at hand. -/
import Derived.Test.YtknoedlelmflhaaCodeBits
namespace Go.Proofs.Ytknoedlelmflhaa
open Go.RowKit Plain

theorem and127_go (c : Nat) (h : c < 256) : Go.bits .and .u8 (c : Int) 127 = ((c % 128 : Nat) : Int) := by
  have h1 := u8_and_nat c 127 h (by omega)
  have h2 : c &&& 127 = c % 128 := Nat.and_two_pow_sub_one_eq_mod c 7
  rw [h2] at h1
  exact h1

set_option maxRecDepth 100000 in
set_option maxHeartbeats 400000 in
theorem number_any (b f : Nat) (s : List UInt8) (w : World) (hb : w.heap[b]? = some (.cells #[.string ⟨s.toArray⟩, .int .i64 f] 105 (0, 0))) (hs : s.length ≤ 140737488355328) :
    Calls Try.prog 59 #[.pointer (some ⟨b, 0, none⟩)] w (Ret w (.tuple #[.int .i64 (numR s).1, .string ⟨(numR s).2.1.toArray⟩, .int .i64 (numR s).2.2])) := by
  have c0 : w.cell? ⟨b, 0, none⟩ = some (.string ⟨s.toArray⟩) := cell_of_row w b 0 _ _ _ hb
  go_enter Try.func59, Try.ntmps59
  go_wp2_with (fail)
  go_loopw [5, 6, 7, 13] (fun t5 _ _ t13 wr => ∃ (i acc : Nat), t5 = .int .i64 acc ∧ t13 = .int .i64 i ∧ i ≤ s.length ∧ i ≤ 9 ∧ acc < 128 ^ i ∧ numG i acc (s.drop i) = numR s ∧ wr = w) (fun _ _ _ t13 _ => s.length - (intOf t13).toNat)
  case atStart => exact ⟨0, 0, rfl, rfl, by omega, by omega, by simp, rfl, rfl⟩
  case round =>
    obtain ⟨i, acc, rfl, rfl, hi, hi9, hacc, hg, rfl⟩ := hrel
    have HG := Lib.hid hg
    have HA := Lib.hid hacc
    clear hg hacc
    by_cases hlt : i < s.length
    · have hlti : (i : Int) < s.length := by omega
      have hc : s[i].toNat < 256 := s[i].toNat_lt
      have hdr : s.drop i = s[i] :: s.drop (i + 1) := (List.getElem_cons_drop hlt).symm
      have HD := Lib.hid hdr
      generalize hcc : s[i] = c at *
      by_cases h9 : i = 9
      · have h9B : ((i : Int) == 9) = true := by rw [h9]; rfl
        have hg := HG.out
        rw [HD.out, numG, if_pos h9] at hg
        have HG2 := Lib.hid hg
        clear hdr h9 hg
        go_wp2_with (fail)
        go_ret3
        refine ⟨?_, Below.refl _ _⟩
        rw [← HG2.out]
        rfl
      · have hand : Go.bits .and .u8 (c.toNat : Int) 127 = ((c.toNat % 128 : Nat) : Int) := and127_go c.toNat hc
        have hm := Nat.mod_lt c.toNat (show 128 > 0 by omega)
        clear hdr
        have hor : Go.bits .or .i64 (acc : Int) (wrap64 ((c.toNat : Int) % 128 * 2 ^ (7 * i))) = ((acc + c.toNat % 128 * 128 ^ i : Nat) : Int) := by
          have h := or_grow acc (c.toNat % 128) i HA.out (by omega) (by omega)
          rw [← h]; rfl
        set_option maxRecDepth 4000 in go_wp2_with (fail)
        · have h0 : c.toNat = 0 := by assumption
          have hi0 : 0 < i := by assumption
          have hg := HG.out
          rw [HD.out, numG, if_neg h9, if_pos (by omega), if_pos ⟨h0, hi0⟩] at hg
          go_ret3
          exact ⟨by rw [← hg]; rfl, Below.refl _ _⟩
        · have h0 : c.toNat = 0 := by assumption
          have hi0 : ¬ 0 < i := by assumption
          have hg := HG.out
          rw [HD.out, numG, if_neg h9, if_pos (by omega), if_neg (by omega)] at hg
          go_quiet (fail)
          go_wp2_with (fail)
          go_ret3
          refine ⟨?_, below_drewN (Below.refl _ _) _⟩
          rw [← hg, h0]
          simp only [Array.getD_eq_getD_getElem?, List.getElem?_toArray, List.getElem?_cons_succ, List.getElem?_cons_zero, Option.getD_some]
          simp
        · have h0 : ¬ c.toNat = 0 := by assumption
          have h128 : c.toNat < 128 := by omega
          have hg := HG.out
          rw [HD.out, numG, if_neg h9, if_pos h128, if_neg (by omega)] at hg
          have HG2 := Lib.hid hg
          clear hg
          go_quiet (fail)
          go_wp2_with (fail)
          go_ret3
          refine ⟨?_, below_drewN (Below.refl _ _) _⟩
          rw [← HG2.out]
          simp only [Array.getD_eq_getD_getElem?, List.getElem?_toArray, List.getElem?_cons_succ, List.getElem?_cons_zero, Option.getD_some]
          rw [show ((acc + c.toNat * 128 ^ i : Nat) : Int) = (acc : Int) + (c.toNat : Int) % 128 * 128 ^ i by rw [show (c.toNat : Int) % 128 = ((c.toNat : Nat) : Int) by omega]; push_cast; rfl]
          rfl
        · have h128 : ¬ c.toNat < 128 := by omega
          have hg := HG.out
          rw [HD.out, numG, if_neg h9, if_neg h128] at hg
          go_roundw
          case rel =>
            refine ⟨i + 1, acc + c.toNat % 128 * 128 ^ i, by push_cast; rfl, by go_num, by omega, by omega, ?_, hg, trivial⟩
            have ha := HA.out
            have h2 : c.toNat % 128 * 128 ^ i ≤ 127 * 128 ^ i := Nat.mul_le_mul_right _ (by omega)
            rw [Nat.pow_succ]; omega
          case measure => simp [intOf]; omega
    · obtain rfl : i = s.length := by omega
      have hg := HG.out
      rw [List.drop_length, numG] at hg
      by_cases h9 : 9 ≤ s.length
      · rw [if_pos h9] at hg
        go_wp2_with (fail)
        go_ret3
        refine ⟨?_, Below.refl _ _⟩
        rw [← hg]
        rfl
      · rw [if_neg h9] at hg
        go_wp2_with (fail)
        go_ret3
        refine ⟨?_, Below.refl _ _⟩
        rw [← hg]
        rfl
end Go.Proofs.Ytknoedlelmflhaa
