/- code.Num: a number's bytes. -/
import Derived.Test.YtknoedlelmflhaaWords
import Derived.Test.YtknoedlelmflhaaPlain03
namespace Go.Proofs.Ytknoedlelmflhaa
open Go.RowKit Plain
theorem or128 : ∀ x : Nat, x < 256 → x ||| 128 = x % 128 + 128 := by decide +kernel
theorem or128_go (m : Nat) : Go.bits .or .u8 ((m : Int) % 256) 128 = ((m % 128 + 128 : Nat) : Int) := by
  have h := u8_or_nat (m % 256) 128 (by omega) (by omega)
  rw [or128 _ (by omega), show m % 256 % 128 = m % 128 by omega] at h
  rw [← h]
  rfl
theorem info_byte : (Try.prog.info? 5).map (fun i => (i.zero, i.size, i.bytes)) = some (some (.int .u8 0), 1, 1) := by kernel_rfl

set_option maxRecDepth 100000 in
set_option maxHeartbeats 400000 in
theorem Num_any (n : Nat) (w : World) (hn : n < 9223372036854775808) :
    Calls Try.prog 35 #[.int .i64 n] w (Ret w (.string ⟨(numB n).toArray⟩)) := by
  obtain ⟨i0, hi, hz0, hz1, hz2⟩ := info_parts info_byte
  go_enter Try.func35, Try.ntmps35
  go_wp2_with (fail)
  go_loopw [0, 3] (fun t0 t3 wr => ∃ (m k : Nat) (acc : List UInt8), t0 = .int .i64 m ∧ acc.length + (k + 1) = 9 ∧ m < 128 ^ (k + 1) ∧ m < 9223372036854775808 ∧ acc ++ numF (k + 1) m = numB n ∧ wr.ownsRow w.heap.size 5 1 t3 acc.length (bytesV acc) ∧ Below w.heap.size w wr) (fun t0 _ _ => (intOf t0).toNat)
  case atStart => exact ⟨n, 8, [], rfl, rfl, by simpa using hn, hn, rfl, World.ownsRow_nil _ _ _ _, Below.refl _ _⟩
  case round =>
    obtain ⟨m, k, acc, rfl, hk, hm, hm63, hacc, hown, hb⟩ := hrel
    have HACC := Lib.hid hacc
    have HM := Lib.hid hm
    clear hacc hm
    by_cases h : m < 128
    · have hle : ¬ ((127 : Int) < m) := by omega
      go_wp2_with (at_builtin; refine wpList_append_own _ rfl _ _ 101 rfl w.heap.size 5 i0 _ 1 1 Try.underlying101 hi hz0 hz1 hz2 rfl (by decide) _ _ _ rfl (hown.alloc _) ⟨wr.heap.size, 0, none⟩ 1 1 [.int .u8 (m : Int)] rfl rfl (laid_one _ _ _) (one_oneCell rfl) ?c3 ?c4 ?c5 ?_)
      case c3 => unfold maxLen; omega
      case c4 => omega
      case c5 => have := hb.size; simp; omega
      intro v' w2 hown2 hg2 _
      have hbv : bytesV acc ++ [.int .u8 (m : Int)] = bytesV (acc ++ [UInt8.ofNat m]) := by
        rw [bytesV_append]; simp [bytesV]; omega
      rw [hbv] at hown2
      have hconv := conv_own (P := Try.prog) 101 9 5 Try.underlying101 Try.underlying5 Try.underlying9 hown2
      go_wp2_with (fail)
      go_ret
      refine ⟨?_, below_appended hb hb.size hown _ hg2⟩
      rw [← HACC.out]
      simp [numF, h]
    · have hgt : ((127 : Int) < m) := by omega
      have hor := or128_go m
      have hm127 : m / 128 < 9223372036854775808 := by omega
      have hk0 : k ≠ 0 := by
        rintro rfl
        have := HM.out
        simp at this
        omega
      go_wp2_with (at_builtin; refine wpList_append_own _ rfl _ _ 101 rfl w.heap.size 5 i0 _ 1 1 Try.underlying101 hi hz0 hz1 hz2 rfl (by decide) _ _ _ rfl (hown.alloc _) ⟨wr.heap.size, 0, none⟩ 1 1 [.int .u8 ((m % 128 + 128 : Nat) : Int)] rfl rfl (laid_one _ _ _) (one_oneCell rfl) ?c3 ?c4 ?c5 ?_)
      case c3 => unfold maxLen; omega
      case c4 => omega
      case c5 => have := hb.size; simp; omega
      intro v' w2 hown2 hg2 _
      go_wp2_with (fail)
      go_roundw
      case rel =>
        obtain ⟨k, rfl⟩ : ∃ j, k = j + 1 := ⟨k - 1, by omega⟩
        have hm := HM.out
        refine ⟨m / 128, k, acc ++ [UInt8.ofNat (m % 128 + 128)], ?_, by simp; omega, by rw [Nat.pow_succ] at hm; omega, by omega, ?_, ?_, below_appended hb hb.size hown _ hg2⟩
        · go_num
        · rw [List.append_assoc, ← HACC.out]
          conv => rhs; unfold numF
          rw [if_neg h]; rfl
        · rw [bytesV_append, List.length_append]
          have e : bytesV [UInt8.ofNat (m % 128 + 128)] = [.int .u8 ((m % 128 + 128 : Nat) : Int)] := by simp [bytesV]; omega
          rw [e]; exact hown2
      case measure => simp [intOf]; omega
end Go.Proofs.Ytknoedlelmflhaa
