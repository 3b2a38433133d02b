/- hawserlaw17.MergeEven. -/
import Derived.Test.YtgbiddjkjdggpaaDoorRun
import Derived.Test.YtgbiddjkjdggpaaDoorPlainEven
namespace Go.Proofs.YtgbiddjkjdggpaaDoor
open Go.RowKit Plain

theorem finM_ok (a : List UInt8) (h : a.length ≤ 3000) : finM (a, true) = (a, 0) := by unfold finM; rw [if_neg (by simp), if_neg (by simp; omega)]

set_option maxHeartbeats 4000000 in
theorem MergeEven_main (o a b : List UInt8) (m : Int) (w : World) (p1 : o.length ≤ 3000) (p2 : a.length ≤ 3000) (p3 : b.length ≤ 3000) (hm : w.cell? ⟨0, 0, none⟩ = some (.int .i64 m)) :
    Calls Tryd.prog 4 #[.agg #[.string ⟨o.toArray⟩, .string ⟨a.toArray⟩, .string ⟨b.toArray⟩]] w (Ret w (.bool true)) := by
  have hmlt := World.block_lt_of_cell? _ _ hm
  have hB0 : Below w.heap.size w (w.alloc (.cells #[.string ⟨o.toArray⟩, .string ⟨a.toArray⟩, .string ⟨b.toArray⟩] 23)) := (Below.refl _ _).alloc (Nat.le_refl _) _
  have hm0 := (hB0.cell (p := ⟨0, 0, none⟩) hmlt).trans hm
  have HM := Lib.hid hm
  have HAW := Lib.hid (awake_any m _ hm0)
  clear hm hm0
  have d1 : decide ((3000 : Int) < o.length) = false := by simp; omega
  have d2 : decide ((3000 : Int) < a.length) = false := by simp; omega
  have d3 : decide ((3000 : Int) < b.length) = false := by simp; omega
  go_enter Tryd.func4, Tryd.ntmps4
  go_wp2_with (fail)
  refine HAW.out.mono ?_
  rintro e w1 ⟨rfl, hw1⟩
  have c0 := (hw1.cell (p := ⟨w.heap.size, 0, none⟩) (show w.heap.size < _ by simp)).trans (cell_of_row _ _ _ _ _ (0, 0) (heap_alloc_new w _))
  have c1 := (hw1.cell (p := ⟨w.heap.size, 1, none⟩) (show w.heap.size < _ by simp)).trans (cell_of_row _ _ _ _ _ (0, 0) (heap_alloc_new w _))
  have c2 := (hw1.cell (p := ⟨w.heap.size, 2, none⟩) (show w.heap.size < _ by simp)).trans (cell_of_row _ _ _ _ _ (0, 0) (heap_alloc_new w _))
  simp only [List.getElem?_toArray, List.getElem?_cons_zero, List.getElem?_cons_succ] at c0 c1 c2
  have hB1 := hB0.trans (hw1.mono hB0.size)
  have hm1 := (hB1.cell (p := ⟨0, 0, none⟩) hmlt).trans HM.out
  clear hw1 hB0
  have hr1 := Run_lines o a b m w1 (by omega) (by omega) (by omega) hm1
  generalize hR : finM (linesM o a b) = R at *
  have HR1 := Lib.hid hr1
  clear hr1 hm1
  go_wp2_with (fail)
  refine HR1.out.mono ?_
  rintro e w2 ⟨rfl, hw2⟩
  have q0 := (hw2.cell (p := ⟨w.heap.size, 0, none⟩) (World.block_lt_of_cell? _ _ c0)).trans c0
  have q1 := (hw2.cell (p := ⟨w.heap.size, 1, none⟩) (World.block_lt_of_cell? _ _ c1)).trans c1
  have q2 := (hw2.cell (p := ⟨w.heap.size, 2, none⟩) (World.block_lt_of_cell? _ _ c2)).trans c2
  have hB2 := hB1.trans (hw2.mono hB1.size)
  have hm2 := (hB2.cell (p := ⟨0, 0, none⟩) hmlt).trans HM.out
  clear hw2 hB1
  have hr2 := Run_lines o b a m w2 (by omega) (by omega) (by omega) hm2
  rw [linesM_comm o b a, hR] at hr2
  have HR2 := Lib.hid hr2
  clear hr2 hm2
  go_wp2_with (fail)
  refine HR2.out.mono ?_
  rintro e w3 ⟨rfl, hw3⟩
  have r0 := (hw3.cell (p := ⟨w.heap.size, 0, none⟩) (World.block_lt_of_cell? _ _ q0)).trans q0
  have r1 := (hw3.cell (p := ⟨w.heap.size, 1, none⟩) (World.block_lt_of_cell? _ _ q1)).trans q1
  have r2 := (hw3.cell (p := ⟨w.heap.size, 2, none⟩) (World.block_lt_of_cell? _ _ q2)).trans q2
  have hB3 := hB2.trans (hw3.mono hB2.size)
  have hm3 := (hB3.cell (p := ⟨0, 0, none⟩) hmlt).trans HM.out
  clear hw3 hB2
  have hr3 := Run_lines o a o m w3 (by omega) (by omega) (by omega) hm3
  rw [linesM_left, finM_ok a p2] at hr3
  have HR3 := Lib.hid hr3
  clear hr3 hm3
  go_wp2_with (fail)
  refine HR3.out.mono ?_
  rintro e w4 ⟨rfl, hw4⟩
  have s0 := (hw4.cell (p := ⟨w.heap.size, 0, none⟩) (World.block_lt_of_cell? _ _ r0)).trans r0
  have s1 := (hw4.cell (p := ⟨w.heap.size, 1, none⟩) (World.block_lt_of_cell? _ _ r1)).trans r1
  have s2 := (hw4.cell (p := ⟨w.heap.size, 2, none⟩) (World.block_lt_of_cell? _ _ r2)).trans r2
  have hB4 := hB3.trans (hw4.mono hB3.size)
  have hm4 := (hB4.cell (p := ⟨0, 0, none⟩) hmlt).trans HM.out
  clear hw4 hB3
  have hr4 := Run_lines o o b m w4 (by omega) (by omega) (by omega) hm4
  rw [linesM_right, finM_ok b p3] at hr4
  have HR4 := Lib.hid hr4
  clear hr4 hm4
  go_wp2_with (fail)
  refine HR4.out.mono ?_
  rintro e w5 ⟨rfl, hw5⟩
  have u0 := (hw5.cell (p := ⟨w.heap.size, 0, none⟩) (World.block_lt_of_cell? _ _ s0)).trans s0
  have u1 := (hw5.cell (p := ⟨w.heap.size, 1, none⟩) (World.block_lt_of_cell? _ _ s1)).trans s1
  have u2 := (hw5.cell (p := ⟨w.heap.size, 2, none⟩) (World.block_lt_of_cell? _ _ s2)).trans s2
  have hB5 := hB4.trans (hw5.mono hB4.size)
  have hm5 := (hB5.cell (p := ⟨0, 0, none⟩) hmlt).trans HM.out
  clear hw5 hB4
  have HL := Lib.hid (Lines_any a m w5 (by omega) hm5)
  have hfl := linesL_flat a
  have hln := linesL_length a
  generalize linesL a = L at *
  have HFL := Lib.hid hfl
  clear hm5 hfl
  go_wp2_with (fail)
  refine HL.out.mono ?_
  rintro e w6 ⟨A, cA, rfl, hcA, hmA, hrA, hw6, hA0⟩
  have v1 := (hw6.cell (p := ⟨w.heap.size, 1, none⟩) (World.block_lt_of_cell? _ _ u1)).trans u1
  have v2 := (hw6.cell (p := ⟨w.heap.size, 2, none⟩) (World.block_lt_of_cell? _ _ u2)).trans u2
  have hB6 := hB5.trans (hw6.mono hB5.size)
  clear hw6 hB5
  go_wp2_with (fail)
  go_loopw [11, 76] (fun t11 t76 W => ∃ k : Nat, k ≤ L.length ∧ t76 = .int .i64 k ∧ t11 = .string ⟨(L.take k).flatten.toArray⟩ ∧ Hid (Below w6.heap.size w6 W)) (fun _ t76 _ => L.length - (intOf t76).toNat)
  case atStart => exact ⟨0, by omega, rfl, by simp, Lib.hid (Below.refl _ _)⟩
  case round =>
    obtain ⟨k, hk, rfl, rfl, HB⟩ := hrel
    have hbel := HB.out
    by_cases hlt : k < L.length
    · obtain ⟨ad, rfl, cS⟩ := (hrA.below hbel).str_at hlt
      have hf : (L.take k).flatten ++ L[k] = (L.take (k + 1)).flatten := by rw [List.take_succ_eq_append_getElem hlt]; simp only [List.flatten_append, List.flatten_cons, List.flatten_nil, List.append_nil]
      have hlen := flat_take_le L (k + 1)
      rw [← hf, HFL.out, List.length_append] at hlen
      generalize L[k] = l at *
      have HF := Lib.hid hf
      have i0 : (0 : Int) ≤ k := by omega
      have i1 : (k : Int) < L.length := by omega
      clear hf hbel
      generalize hacc : (L.take k).flatten = acc at *
      go_wp2_with (fail)
      go_roundw
      case rel => exact ⟨k + 1, by omega, by go_num, by rw [← HF.out], HB⟩
      case measure => simp [intOf]; omega
    · obtain rfl : k = L.length := by omega
      rw [List.take_of_length_le (Nat.le_refl _), HFL.out]
      have v1' := (hbel.cell (p := ⟨w.heap.size, 1, none⟩) (World.block_lt_of_cell? _ _ v1)).trans v1
      have v2' := (hbel.cell (p := ⟨w.heap.size, 2, none⟩) (World.block_lt_of_cell? _ _ v2)).trans v2
      have hB7 := hB6.trans (hbel.mono hB6.size)
      clear hbel
      go_wp2_with (fail)
      go_ret
      exact ⟨rfl, hB7⟩
end Go.Proofs.YtgbiddjkjdggpaaDoor
