/- merge.union. -/
import Derived.Test.YtgbiddjkjdggpaaDoorLinesAt
import Derived.Test.YtgbiddjkjdggpaaDoorRun
namespace Go.Proofs.YtgbiddjkjdggpaaDoor
open Go.RowKit Plain

set_option maxHeartbeats 2000000 in
theorem union_any (a b : List UInt8) (m : Int) (w : World) (ha : a.length ≤ 65536) (hb : b.length ≤ 65536) (hm : w.cell? ⟨0, 0, none⟩ = some (.int .i64 m)) :
    Calls Tryd.prog 16 #[.string ⟨a.toArray⟩, .string ⟨b.toArray⟩] w (Ret w (.string ⟨(unionM a b).toArray⟩)) := by
  obtain ⟨i0, hi, hz0, hz1, hz2⟩ := info_parts info_string
  have hmlt := World.block_lt_of_cell? _ _ hm
  have hla := linesL_length a
  have hlb := linesL_length b
  have hul := unionL_length (linesL a) (linesL b)
  have huf := And.intro (unionM_le a b) (unionL_flat a b)
  have HM := Lib.hid hm
  have hg1 := Lines_at a m w (by omega) hm
  have HUM := Lib.hid (show unionM a b = (ends (unionL (linesL a) (linesL b))).flatten from rfl)
  have HLB := Lib.hid (fun W (h : W.cell? ⟨0, 0, none⟩ = some (.int .i64 m)) => Lines_at b m W (by omega) h)
  clear hm
  generalize linesL a = X at *
  generalize linesL b = Y at *
  generalize unionM a b = res at *
  have HG1 := Lib.hid hg1
  have HUF := Lib.hid huf
  have HUL := Lib.hid hul
  clear hg1 huf hul
  go_enter Tryd.func16, Tryd.ntmps16
  go_wp2_with (fail)
  refine HG1.out.mono ?_
  rintro e w1 ⟨ca, rfl, hca, hma, hra, hw1, hsz1⟩
  have hm1 := (hw1.cell (p := ⟨0, 0, none⟩) hmlt).trans HM.out
  have HRA := Lib.hid hra
  clear hra
  go_wp2_with (fail)
  refine (Clone_strs w.heap.size ca X w1 HRA.out (by omega)).mono ?_
  rintro e w2 ⟨v, rfl, hown, hw2⟩
  have hm2 := (hw2.cell (p := ⟨0, 0, none⟩) (Nat.lt_of_lt_of_le hmlt hw1.size)).trans hm1
  go_wp2_with (fail)
  refine (HLB.out w2 hm2).mono ?_
  rintro e w3 ⟨cb, rfl, hcb, hmb, hrb, hw3, hsz3⟩
  have hB3 := hw2.trans (hw3.mono hw2.size)
  have hown3 := own_below hown hw3
  have hne3 : v.ownBlock ≠ some w2.heap.size := fun e => by have := (hown.lt _ e).2; omega
  have HB3 := Lib.hid hB3
  have HNE3 := Lib.hid hne3
  have HRB := Lib.hid hrb
  have hs12 := hw2.size
  clear hm1 hm2 hw2 hw3 hB3 hown hne3 hrb
  go_wp2_with (fail)
  go_loopw [6, 17] (fun t6 t17 W => ∃ k : Nat, k ≤ Y.length ∧ t17 = .int .i64 k ∧ W.ownsRow w1.heap.size 9 1 t6 (X ++ addsL X (Y.take k)).length (strs (X ++ addsL X (Y.take k))) ∧ Hid (t6.ownBlock ≠ some w2.heap.size) ∧ Hid (Reads W 1 (some ⟨w2.heap.size, 0, none⟩) Y.length (strs Y)) ∧ Hid (Below w1.heap.size w1 W) ∧ w2.heap.size < W.heap.size) (fun _ t17 _ => Y.length - (intOf t17).toNat)
  case atStart => exact ⟨0, by omega, rfl, by simpa [addsL] using hown3, HNE3, HRB, HB3, hsz3⟩
  case round =>
    clear HRB HB3 HNE3 hown3
    obtain ⟨k, hk, rfl, hown, HNE, HRB, HB, hsz⟩ := hrel
    have hbel := HB.out
    have hXW := HRA.out.below hbel
    by_cases hlt : k < Y.length
    · have cS := strs_at0 HRB.out hlt
      have hadd := addsL_take X Y k hlt
      have hlen : (X ++ addsL X (Y.take k)).length ≤ X.length + Y.length := by
        have := unionL_length X (Y.take k)
        unfold unionL at this
        rw [List.length_take] at this
        omega
      generalize Y[k] = s at *
      have HC := Lib.hid (Contains_strs w.heap.size ca X s wr hXW (by omega))
      have i0' : (0 : Int) ≤ k := by omega
      have i1 : (k : Int) < Y.length := by omega
      cases hh : hasL X s with
      | true =>
        rw [hh, if_pos rfl] at hadd
        rw [hh] at HC
        have HADD := Lib.hid hadd
        clear hadd hXW hbel
        go_wp2_with (fail)
        refine HC.out.mono ?_
        rintro e w4 ⟨rfl, rfl⟩
        go_wp2_with (fail)
        go_roundw
        case rel => exact ⟨k + 1, by omega, by go_num, by rw [HADD.out]; exact hown, HNE, HRB, HB, hsz⟩
        case measure => simp [intOf]; omega
      | false =>
        rw [hh, if_neg (by decide)] at hadd
        rw [hh] at HC
        have HADD := Lib.hid hadd
        have HLEN := Lib.hid hlen
        clear hadd hXW hbel hlen
        go_wp2_with (fail)
        refine HC.out.mono ?_
        rintro e w4 ⟨rfl, rfl⟩
        go_wp2_with (at_builtin; refine wpList_append_two rfl _ _ 32 rfl w1.heap.size 9 i0 _ 1 16 Tryd.underlying32 hi hz0 hz1 hz2 rfl (by decide) _ _ _ rfl (hown.alloc _) ⟨w4.heap.size, 0, none⟩ 1 1 [.string ⟨s.toArray⟩] rfl rfl (laid_one _ _ _) (one_oneCell rfl) ?c3 ?c4 ?c5 ?_)
        case c3 => have := HLEN.out; unfold maxLen; omega
        case c4 => have := HLEN.out; omega
        case c5 => have := HB.out.size; simp; omega
        intro v1 w5 hown5 hg5 hl5
        have hb5 : Below w1.heap.size w1 w5 := (HB.out.alloc HB.out.size _).grown hg5 (by have := HB.out.size; simp; omega) (fun k hk => (hown.lt k hk).1)
        have hown6 : w5.ownsRow w1.heap.size 9 1 v1 (X ++ addsL X (Y.take (k + 1))).length (strs (X ++ addsL X (Y.take (k + 1)))) := by
          rw [HADD.out, ← List.append_assoc, strs_append, List.length_append, List.length_append]; exact hown5
        have hne5 : v1.ownBlock ≠ some w2.heap.size := fun e => by
          rcases hl5 _ e with h | h
          · exact HNE.out h
          · simp at h; omega
        have hrb5 := (HRB.out.below ((Below.refl _ _).alloc (Nat.le_refl _) _)).gb hg5 HNE.out
        have hsz5 : w2.heap.size < w5.heap.size := by have := hg5.size; simp at this; omega
        have HB5 := Lib.hid hb5
        have HNE5 := Lib.hid hne5
        have HRB5 := Lib.hid hrb5
        clear hown5 hg5 hl5 hb5 hne5 hrb5
        go_wp2_with (fail)
        go_roundw
        case rel => exact ⟨k + 1, by omega, by go_num, hown6, HNE5, HRB5, HB5, hsz5⟩
        case measure => simp [intOf]; omega
    · obtain rfl : k = Y.length := by omega
      rw [List.take_of_length_le (Nat.le_refl _)] at hown
      have hU : X ++ addsL X Y = unionL X Y := rfl
      rw [hU] at hown
      clear hU HRA HRB HNE hXW hbel
      have hul := HUL.out
      generalize unionL X Y = U at *
      rcases hown.2 with ⟨rfl, h0⟩ | ⟨g, cap, cur, rfl, hgb, hgr, hcap, hcm, _, _⟩
      · have hU0 : U = [] := List.length_eq_zero_iff.1 h0
        subst hU0
        have HJ := Lib.hid (join_own hown (by simp) (by simp))
        clear hown
        go_wp2_with (fail)
        go_loopw [32] (fun t32 W => t32 = .int .i64 0 ∧ W = wr) (fun _ _ => 0)
        case atStart => exact ⟨rfl, rfl⟩
        case round =>
          obtain ⟨rfl, rfl⟩ := hrel
          go_wp2_with (fail)
          refine HJ.out.mono ?_
          rintro e w6 ⟨rfl, hw6⟩
          go_wp2_with (fail)
          go_ret
          exact ⟨by rw [HUM.out]; rfl, (hw1.trans (HB.out.mono hw1.size)).trans (hw6.mono (Nat.le_trans hw1.size HB.out.size))⟩
      · have huf := HUF.out
        clear hgr hcm hcap
        go_wp2_with (fail)
        go_loopw [32] (fun t32 W => ∃ i : Nat, i ≤ U.length ∧ t32 = .int .i64 i ∧ W.ownsRow w1.heap.size 9 1 (.slice (some ⟨g, 0, none⟩) U.length cap) U.length (strs ((ends U).take i ++ U.drop i)) ∧ Hid (Below w1.heap.size w1 W)) (fun t32 _ => U.length - (intOf t32).toNat)
        case atStart => exact ⟨0, by omega, rfl, by simpa using hown, HB⟩
        case round =>
          clear hown HB
          obtain ⟨i, hi', rfl, hown, HB⟩ := hrel
          have i0' : (0 : Int) ≤ i := by omega
          by_cases hlt : i < U.length
          · have hrow := ends_row_get U i hlt
            have hc := hown.cellAt i (by omega)
            have hf := hown.frozenAt i
            have hsl := flat_get U i hlt
            have hsame := ends_same U i hlt
            have hstep := ends_step U i hlt
            have i1 : (i : Int) < U.length := by omega
            generalize U[i] = s at *
            have hcell : wr.cell? ⟨g, i, none⟩ = some (.string ⟨s.toArray⟩) := by
              rw [hc]
              unfold strs
              rw [List.getElem?_map, hrow]
              rfl
            have hslen : s.length ≤ 262144 := by omega
            clear hc hrow hsl
            by_cases hl : i + 1 < U.length
            · have hB : decide ((i : Int) < (U.length : Int) - 1) = true := by simp; omega
              rw [if_pos hl] at hsame hstep
              have HS := Lib.hid (HasSuffix_nl s wr (by omega))
              cases hh : Lib.hasSuffix s [10] with
              | true =>
                have hfix : fixE s = s := by unfold fixE; rw [hh]; rfl
                have HSAME := Lib.hid (hsame hfix)
                rw [hh] at HS
                clear hsame hstep hfix
                go_wp2_with (fail)
                refine HS.out.mono ?_
                rintro e w4 ⟨rfl, rfl⟩
                go_wp2_with (fail)
                go_roundw
                case rel => exact ⟨i + 1, by omega, by go_num, by rw [HSAME.out]; exact hown, HB⟩
                case measure => simp [intOf]; omega
              | false =>
                have hfix : fixE s = s ++ [10] := by unfold fixE; rw [hh]; rfl
                rw [hfix] at hstep
                rw [hh] at HS
                have HSTEP := Lib.hid hstep
                clear hsame hstep hfix
                go_wp2_with (fail)
                refine HS.out.mono ?_
                rintro e w4 ⟨rfl, rfl⟩
                go_wp2_with (fail)
                go_roundw
                case rel =>
                  obtain ⟨hst, hgb'⟩ := hown.stored i (.string ⟨(s ++ [10]).toArray⟩)
                  refine ⟨i + 1, by omega, by go_num, ?_, Lib.hid (below_gb HB.out HB.out.size hgb' hgb)⟩
                  rw [HSTEP.out]
                  unfold strs at hst ⊢
                  rw [List.map_set]
                  exact hst
                case measure => simp [intOf]; omega
            · have hB : decide ((i : Int) < (U.length : Int) - 1) = false := by simp; omega
              rw [if_neg hl] at hsame
              have HSAME := Lib.hid (hsame rfl)
              clear hsame hstep
              go_wp2_with (fail)
              go_roundw
              case rel => exact ⟨i + 1, by omega, by go_num, by rw [HSAME.out]; exact hown, HB⟩
              case measure => simp [intOf]; omega
          · obtain rfl : i = U.length := by omega
            have hE : (ends U).take U.length ++ U.drop U.length = ends U := by
              rw [List.take_of_length_le (by rw [ends_length]; exact Nat.le_refl _), List.drop_eq_nil_of_le (Nat.le_refl _), List.append_nil]
            rw [hE] at hown
            have hEl := ends_length U
            have hown' : wr.ownsRow w1.heap.size 9 1 (.slice (some ⟨g, 0, none⟩) U.length cap) (ends U).length (strs (ends U)) := by rw [hEl]; exact hown
            have HJ := Lib.hid (join_own hown' (by omega) (by omega))
            clear hown hE hown' hEl
            go_wp2_with (fail)
            refine HJ.out.mono ?_
            rintro e w6 ⟨rfl, hw6⟩
            go_wp2_with (fail)
            go_ret
            exact ⟨by rw [HUM.out]; rfl, (hw1.trans (HB.out.mono hw1.size)).trans (hw6.mono (Nat.le_trans hw1.size HB.out.size))⟩
end Go.Proofs.YtgbiddjkjdggpaaDoor
