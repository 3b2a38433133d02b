/- The document's answer to what comes at the other end. -/
import Derived.Test.YtpkdnhkmoojplaaLine3
namespace Go.Proofs.Ytpkdnhkmoojplaa
open Go.RowKit Plain

theorem take_mid {s : List UInt8} {flip : Int} {d i : Nat} (hi : i < s.length) :
    ((if flip < 0 then s else turnAt s flip.toNat d).take (i + 1)) = ((if flip < 0 then s else turnAt s flip.toNat d).take i) ++ [if (i : Int) = flip then UInt8.ofNat (s[i].toNat ^^^ d) else s[i]] := by
  by_cases h0 : flip < 0
  · rw [if_pos h0, List.take_succ_eq_append_getElem hi, if_neg (by omega)]
  · rw [if_neg h0]
    have hl : i < (turnAt s flip.toNat d).length := by rw [turnAt_length]; exact hi
    rw [List.take_succ_eq_append_getElem hl]
    congr 2
    by_cases hf : flip.toNat < s.length
    · simp only [turnAt_in hf]
      by_cases he : (i : Int) = flip
      · subst he
        simp
      · rw [if_neg he, List.getElem_set_ne (by omega)]
    · simp only [turnAt_out (Nat.le_of_not_lt hf)]
      rw [if_neg (by omega)]

set_option maxHeartbeats 1000000 in
theorem Carry_ref (s : List UInt8) (cut flip : Int) (d : Nat) (w : World) (hs : s.length ≤ 140737488355328) (hd : d < 256) (hc : cut ≤ 9223372036854775807) :
    Calls Try.prog 10 #[.string ⟨s.toArray⟩, .agg #[.int .i64 cut, .int .i64 flip, .int .u8 d]] w (Ret w (.string ⟨(carry s cut flip d).toArray⟩)) := by
  obtain ⟨i0, hi, hz0, hz1, hz2⟩ := info_parts info_byte
  obtain ⟨m, hm⟩ : ∃ m, m = (if flip < 0 then s else turnAt s flip.toNat d) := ⟨_, rfl⟩
  have hml : m.length = s.length := by rw [hm]; split; · rfl
                                       · rw [turnAt_length]
  have HM := Lib.hid hm
  have HML := Lib.hid hml
  clear hm hml
  go_enter Try.func10, Try.ntmps10
  go_wp2_with (fail)
  go_loopw [5, 6, 7] (fun t5 t6 t7 wr => ∃ i : Nat, i ≤ s.length ∧ (0 ≤ cut → (i : Int) ≤ cut) ∧ t6 = .int .i64 i ∧ wr.ownsRow (w.heap.size + 1) 5 1 t5 i (bytesV (m.take i)) ∧ Below (w.heap.size + 1) (w.alloc (.cells #[.int .i64 cut, .int .i64 flip, .int .u8 d] 24)) wr) (fun _ t6 _ _ => s.length - (intOf t6).toNat)
  case atStart => exact ⟨0, by omega, fun h => h, rfl, World.ownsRow_nil _ _ _ _, Below.refl _ _⟩
  case round =>
    obtain ⟨i, hi1, hic, rfl, hown, hb⟩ := hrel
    have c0 : wr.cell? ⟨w.heap.size, 0, none⟩ = some (.int .i64 cut) := by rw [hb.cell (by simp)]; go_simp
    have c1 : wr.cell? ⟨w.heap.size, 1, none⟩ = some (.int .i64 flip) := by rw [hb.cell (by simp)]; go_simp
    have c2 : wr.cell? ⟨w.heap.size, 2, none⟩ = some (.int .u8 d) := by rw [hb.cell (by simp)]; go_simp
    by_cases hlt : i < s.length
    · have hx : s[i].toNat ^^^ d < 256 := by
        have := Nat.xor_lt_two_pow (n := 8) (x := s[i].toNat) (y := d) (s[i].toNat_lt) (by omega); omega
      have hxor := u8_xor_nat s[i].toNat d (s[i].toNat_lt) hd
      generalize hxx : s[i].toNat ^^^ d = x at *
      generalize hcc : s[i] = c at *
      have HX := Lib.hid hcc
      have HXX := Lib.hid hxx
      clear hxx
      by_cases h0 : 0 ≤ cut
      · by_cases hcut : cut ≤ i
        · obtain rfl : cut = i := by have := hic h0; omega
          have hconv := conv_own (P := Try.prog) 43 9 5 Try.underlying43 Try.underlying5 Try.underlying9 hown
          go_wp2_with (fail)
          go_ret
          refine ⟨?_, ((Below.refl w.heap.size w).alloc (Nat.le_refl _) _).trans (hb.mono (by omega))⟩
          rw [carry_cut HM.out.symm (by omega)]
          rfl
        · have hci : (i : Int) < cut := by omega
          clear hic hcut
          by_cases hfl : (i : Int) = flip
          · have hfB : ((i : Int) == flip) = true := by simpa using hfl
            have HFL := Lib.hid hfl
            clear hfl
            go_wp2_with (at_builtin; refine wpList_append_own _ rfl _ _ 43 rfl (w.heap.size + 1) 5 i0 _ 1 1 Try.underlying43 hi hz0 hz1 hz2 rfl (by decide) _ _ _ rfl (hown.alloc _) ⟨wr.heap.size, 0, none⟩ 1 1 [.int .u8 (x : Int)] rfl rfl (laid_one _ _ _) (one_oneCell rfl) ?c3 ?c4 ?c5 ?_)
            case c3 => unfold maxLen; omega
            case c4 => omega
            case c5 => have := hb.size; simp at this ⊢; omega
            intro v' w2 hown2 hg2 _
            go_wp2_with (fail)
            go_roundw
            case rel =>
              have hst := take_mid (flip := flip) (d := d) hlt
              rw [← HM.out] at hst
              refine ⟨i + 1, by omega, fun _ => by omega, by go_num, ?_, below_appended hb (by have := hb.size; simp at this; omega) hown _ hg2⟩
              rw [hst, bytesV_append]
              rw [if_pos HFL.out, HX.out, HXX.out]
              simpa [bytesV, Nat.mod_eq_of_lt hx] using hown2
            case measure => simp [intOf]; omega
          · have hfB : ((i : Int) == flip) = false := by simpa using hfl
            have HFL := Lib.hid hfl
            clear hfl
            go_wp2_with (at_builtin; refine wpList_append_own _ rfl _ _ 43 rfl (w.heap.size + 1) 5 i0 _ 1 1 Try.underlying43 hi hz0 hz1 hz2 rfl (by decide) _ _ _ rfl (hown.alloc _) ⟨wr.heap.size, 0, none⟩ 1 1 [.int .u8 (c.toNat : Int)] rfl rfl (laid_one _ _ _) (one_oneCell rfl) ?c3 ?c4 ?c5 ?_)
            case c3 => unfold maxLen; omega
            case c4 => omega
            case c5 => have := hb.size; simp at this ⊢; omega
            intro v' w2 hown2 hg2 _
            go_wp2_with (fail)
            go_roundw
            case rel =>
              have hst := take_mid (flip := flip) (d := d) hlt
              rw [← HM.out] at hst
              refine ⟨i + 1, by omega, fun _ => by omega, by go_num, ?_, below_appended hb (by have := hb.size; simp at this; omega) hown _ hg2⟩
              rw [hst, bytesV_append]
              rw [if_neg HFL.out, HX.out]
              exact hown2
            case measure => simp [intOf]; omega

      · have h0' : cut < 0 := by omega
        clear hic h0
        by_cases hfl : (i : Int) = flip
        · have hfB : ((i : Int) == flip) = true := by simpa using hfl
          have HFL := Lib.hid hfl
          clear hfl
          go_wp2_with (at_builtin; refine wpList_append_own _ rfl _ _ 43 rfl (w.heap.size + 1) 5 i0 _ 1 1 Try.underlying43 hi hz0 hz1 hz2 rfl (by decide) _ _ _ rfl (hown.alloc _) ⟨wr.heap.size, 0, none⟩ 1 1 [.int .u8 (x : Int)] rfl rfl (laid_one _ _ _) (one_oneCell rfl) ?c3 ?c4 ?c5 ?_)
          case c3 => unfold maxLen; omega
          case c4 => omega
          case c5 => have := hb.size; simp at this ⊢; omega
          intro v' w2 hown2 hg2 _
          go_wp2_with (fail)
          go_roundw
          case rel =>
            have hst := take_mid (flip := flip) (d := d) hlt
            rw [← HM.out] at hst
            refine ⟨i + 1, by omega, fun h => by omega, by go_num, ?_, below_appended hb (by have := hb.size; simp at this; omega) hown _ hg2⟩
            rw [hst, bytesV_append]
            rw [if_pos HFL.out, HX.out, HXX.out]
            simpa [bytesV, Nat.mod_eq_of_lt hx] using hown2
          case measure => simp [intOf]; omega
        · have hfB : ((i : Int) == flip) = false := by simpa using hfl
          have HFL := Lib.hid hfl
          clear hfl
          go_wp2_with (at_builtin; refine wpList_append_own _ rfl _ _ 43 rfl (w.heap.size + 1) 5 i0 _ 1 1 Try.underlying43 hi hz0 hz1 hz2 rfl (by decide) _ _ _ rfl (hown.alloc _) ⟨wr.heap.size, 0, none⟩ 1 1 [.int .u8 (c.toNat : Int)] rfl rfl (laid_one _ _ _) (one_oneCell rfl) ?c3 ?c4 ?c5 ?_)
          case c3 => unfold maxLen; omega
          case c4 => omega
          case c5 => have := hb.size; simp at this ⊢; omega
          intro v' w2 hown2 hg2 _
          go_wp2_with (fail)
          go_roundw
          case rel =>
            have hst := take_mid (flip := flip) (d := d) hlt
            rw [← HM.out] at hst
            refine ⟨i + 1, by omega, fun h => by omega, by go_num, ?_, below_appended hb (by have := hb.size; simp at this; omega) hown _ hg2⟩
            rw [hst, bytesV_append]
            rw [if_neg HFL.out, HX.out]
            exact hown2
          case measure => simp [intOf]; omega
    · obtain rfl : i = s.length := by omega
      have hconv := conv_own (P := Try.prog) 43 9 5 Try.underlying43 Try.underlying5 Try.underlying9 hown
      go_wp2_with (fail)
      go_ret
      refine ⟨?_, ((Below.refl w.heap.size w).alloc (Nat.le_refl _) _).trans (hb.mono (by omega))⟩
      have hml := HML.out
      by_cases h0 : cut < 0
      · rw [carry_all HM.out.symm h0, List.take_of_length_le (by omega)]
        rfl
      · rw [carry_cut HM.out.symm (by omega), List.take_of_length_le (by omega), List.take_of_length_le (by have := hic (by omega); omega)]
        rfl
end Go.Proofs.Ytpkdnhkmoojplaa
