import Derived.Test.YtjihemiofnhleaaLib
import Derived.Test.YtjihemiofnhleaaPlain04
namespace Go.Proofs.Ytjihemiofnhleaa
open Go.RowKit Plain

set_option maxHeartbeats 400000 in
theorem Crc_any (s : List UInt8) (w : World) (hs : s.length ≤ 9223372036854775807) :
    Calls Try.prog 11 #[.string ⟨s.toArray⟩] w (Ret w (.int .u32 (crc s))) := by
  go_enter Try.func11, Try.ntmps11
  go_wp2_with (fail)
  go_loopw [4, 5, 8, 13] (fun t4 t5 t8 t13 W => ∃ (k : Nat) (C : Array Value), k ≤ 16 ∧ t8 = .int .i64 k ∧ W = w.alloc (.cells C 48) ∧ C.size = 16 ∧ ∀ j, j < k → C[j]? = some (.int .u32 (bits1 4 j : Nat))) (fun _ _ t8 _ _ => 16 - (intOf t8).toNat)
  case atStart => exact ⟨0, _, by omega, rfl, rfl, rfl, fun j h => by omega⟩
  case round =>
    obtain ⟨k, C, hk, rfl, rfl, hC, hT⟩ := hrel
    by_cases hlt : k < 16
    · have HT := Lib.hid hT
      clear hT
      go_wp2_with (fail)
      go_loop [5, 13] (fun t5 t13 => ∃ j : Nat, j ≤ 4 ∧ t13 = .int .i64 j ∧ t5 = .int .u32 (bits1 j k : Nat)) (fun _ t13 => 4 - (intOf t13).toNat)
      case atStart => exact ⟨0, by omega, rfl, by simp [bits1]⟩
      case round =>
        obtain ⟨j, hj, rfl, rfl⟩ := hrel
        have hb := bits1_lt (n := j) (v := k) (by omega)
        by_cases hlt : j < 4
        · generalize hx : bits1 j k = x at *
          have HX := Lib.hid hx
          clear hx
          go_wp2_with (fail)
          go_round
          case rel => exact ⟨j + 1, by omega, by go_num, by rw [bit1_go x hb, ← HX.out]; rfl⟩
          case measure => simp [intOf]; omega
        · obtain rfl : j = 4 := by omega
          go_wp2_with (fail)
          go_roundw
          case rel =>
            refine ⟨k + 1, _, by omega, by go_num, rfl, by simp [hC], fun j hj => ?_⟩
            by_cases hjk : j = k
            · subst hjk
              simp [hC, hlt]
            · rw [Array.getElem?_setIfInBounds, if_neg (by omega)]
              exact HT.out j (by omega)
          case measure => simp [intOf]; omega
    · obtain rfl : k = 16 := by omega
      have HT := Lib.hid hT
      clear hT
      go_wp2_with (fail)
      go_loop [6, 7, 29] (fun t6 t7 t29 => ∃ i : Nat, i ≤ s.length ∧ t29 = .int .i64 i ∧ t6 = .int .u32 (crcRun (s.take i) : Nat)) (fun _ _ t29 => s.length - (intOf t29).toNat)
      case atStart => exact ⟨0, by omega, rfl, rfl⟩
      case round =>
        obtain ⟨i, hi, rfl, rfl⟩ := hrel
        have hv := crcRun_lt (s.take i)
        by_cases hlt : i < s.length
        · have hstep : crcRun (s.take (i + 1)) = nib (nib (crcRun (s.take i) ^^^ s[i].toNat)) := by
            unfold crcRun
            rw [List.take_succ_eq_append_getElem hlt, List.foldl_append]
            simp [crcB_nib]
          have hc : s[i].toNat < 256 := s[i].toNat_lt
          obtain ⟨x1, m1, x2, m2, x3, hx1, hm1, hx2, hm2, e1, e2, e3, e4, e5, hx3⟩ := nib_go (crcRun (s.take i)) s[i].toNat hv hc
          rw [← hx3] at hstep
          have HS := Lib.hid hstep
          clear hstep hx3
          generalize crcRun (s.take i) = v at *
          generalize hci : s[i] = c at *
          have c1 : (w.alloc (.cells C 48)).cell? ⟨w.heap.size, m1, none⟩ = some (.int .u32 (bits1 4 m1 : Nat)) := by
            rw [cell_of_row _ _ _ C 48 (0, 0) (heap_alloc_new w _)]; exact HT.out m1 hm1
          have c2 : (w.alloc (.cells C 48)).cell? ⟨w.heap.size, m2, none⟩ = some (.int .u32 (bits1 4 m2 : Nat)) := by
            rw [cell_of_row _ _ _ C 48 (0, 0) (heap_alloc_new w _)]; exact HT.out m2 hm2
          go_wp2_with (fail)
          go_round
          case rel => exact ⟨i + 1, by omega, by go_num, by rw [HS.out]⟩
          case measure => simp [intOf]; omega
        · obtain rfl : i = s.length := by omega
          go_wp2_with (fail)
          go_ret
          refine ⟨?_, (Below.refl _ _).alloc (Nat.le_refl _) _⟩
          have h := not_go (crcRun s) (crcRun_lt s)
          simp only [Array.getD_eq_getD_getElem?, List.getElem?_toArray, List.getElem?_cons_succ, List.getElem?_cons_zero, Option.getD_some, h]
          rfl

end Go.Proofs.Ytjihemiofnhleaa
