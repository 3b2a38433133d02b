/- hawserlaw17.MergeSame. -/
import Derived.Test.YtgbiddjkjdggpaaDoorRun
import Derived.Test.YtgbiddjkjdggpaaDoorCard
namespace Go.Proofs.YtgbiddjkjdggpaaDoor
open Go.RowKit Plain

def four : List (List UInt8) := [[108, 105, 110, 101, 115], [108, 111, 110, 103, 101, 114], [97], [98]]
theorem Run_same (p : List UInt8) (hp : p ∈ four) (o a : List UInt8) (m : Int) (w : World) (ho : o.length ≤ 3000) (ha : a.length ≤ 3000) (hm : w.cell? ⟨0, 0, none⟩ = some (.int .i64 m)) :
    Calls Tryd.prog 8 #[.string ⟨p.toArray⟩, .string ⟨o.toArray⟩, .string ⟨a.toArray⟩, .string ⟨a.toArray⟩] w (RunOut w (a, 0)) := by
  simp only [four, List.mem_cons, List.not_mem_nil, or_false] at hp
  rcases hp with rfl | rfl | rfl | rfl
  · have h := Run_lines o a a m w (by omega) (by omega) (by omega) hm
    have hl : linesM o a a = (a, true) := by unfold linesM; rw [if_pos (.inl rfl)]
    rw [hl] at h
    have hf : finM (a, true) = (a, 0) := by unfold finM; rw [if_neg (by simp), if_neg (by simp; omega)]
    rw [hf] at h
    exact h
  · have h := Run_longer o a a w (by rw [longerM_self]; omega)
    rw [longerM_self] at h
    exact h
  · exact Run_a o a a w (by omega)
  · exact Run_b o a a w (by omega)

set_option maxHeartbeats 2000000 in
theorem MergeSame_any (o a b : List UInt8) (m : Int) (w : World) (ho : o.length ≤ 9223372036854775807) (ha : a.length ≤ 9223372036854775807) (hb : b.length ≤ 9223372036854775807) (hm : w.cell? ⟨0, 0, none⟩ = some (.int .i64 m)) :
    Calls Tryd.prog 6 #[.agg #[.string ⟨o.toArray⟩, .string ⟨a.toArray⟩, .string ⟨b.toArray⟩]] w (Ret w (.bool true)) := by
  have hmlt := World.block_lt_of_cell? _ _ hm
  have hB0 : Below w.heap.size w (w.alloc (.cells #[.string ⟨o.toArray⟩, .string ⟨a.toArray⟩, .string ⟨b.toArray⟩] 23)) := (Below.refl _ _).alloc (Nat.le_refl _) _
  have hm0 := (hB0.cell (p := ⟨0, 0, none⟩) hmlt).trans hm
  have HM := Lib.hid hm
  have HAW := Lib.hid (awake_any m _ hm0)
  clear hm hm0
  by_cases h1 : o.length ≤ 3000 ∧ a.length ≤ 3000 ∧ b.length ≤ 3000
  · obtain ⟨p1, p2, p3⟩ := h1
    have d1 : decide ((3000 : Int) < o.length) = false := by simp; omega
    have d2 : decide ((3000 : Int) < a.length) = false := by simp; omega
    have d3 : decide ((3000 : Int) < b.length) = false := by simp; omega
    go_enter Tryd.func6, Tryd.ntmps6
    go_wp2_with (fail)
    refine HAW.out.mono ?_
    rintro e w1 ⟨rfl, hw1⟩
    have c0 := (hw1.cell (p := ⟨w.heap.size, 0, none⟩) (show w.heap.size < _ by simp)).trans (cell_of_row _ _ _ _ _ (0, 0) (heap_alloc_new w _))
    have c1 := (hw1.cell (p := ⟨w.heap.size, 1, none⟩) (show w.heap.size < _ by simp)).trans (cell_of_row _ _ _ _ _ (0, 0) (heap_alloc_new w _))
    have c2 := (hw1.cell (p := ⟨w.heap.size, 2, none⟩) (show w.heap.size < _ by simp)).trans (cell_of_row _ _ _ _ _ (0, 0) (heap_alloc_new w _))
    simp only [List.getElem?_toArray, List.getElem?_cons_zero, List.getElem?_cons_succ] at c0 c1 c2
    have hB1 := hB0.trans (hw1.mono hB0.size)
    have hwlt : w.heap.size < w1.heap.size := World.block_lt_of_cell? _ _ c0
    clear hw1 hB0
    go_wp2_with (fail)
    go_loopw [35] (fun t35 W => ∃ k : Nat, k ≤ 4 ∧ t35 = .int .i64 k ∧ Hid (Below w1.heap.size w1 W) ∧ Hid (Reads W 1 (some ⟨w1.heap.size, 0, none⟩) four.length (strs four))) (fun t35 _ => 4 - (intOf t35).toNat)
    case atStart => exact ⟨0, by omega, rfl, Lib.hid ((Below.refl _ _).alloc (Nat.le_refl _) _), Lib.hid (laid_strs _ four _)⟩
    case round =>
      obtain ⟨k, hk, rfl, HB, HR⟩ := hrel
      have hbel := HB.out
      have q0 := (hbel.cell (p := ⟨w.heap.size, 0, none⟩) hwlt).trans c0
      have q1 := (hbel.cell (p := ⟨w.heap.size, 1, none⟩) hwlt).trans c1
      have q2 := (hbel.cell (p := ⟨w.heap.size, 2, none⟩) hwlt).trans c2
      have hmW := ((hB1.trans (hbel.mono hB1.size)).cell (p := ⟨0, 0, none⟩) hmlt).trans HM.out
      by_cases hlt : k < 4
      · obtain ⟨ad, hAe, cS⟩ := HR.out.str_at (show k < four.length from hlt)
        injection hAe with hAe
        subst hAe
        rw [show (⟨w1.heap.size, 0, none⟩ : Addr).add k = ⟨w1.heap.size, k, none⟩ by unfold Addr.add; split <;> simp_all] at cS
        have i0 : (0 : Int) ≤ k := by omega
        have i1 : (k : Int) < 4 := by omega
        have hr := Run_same (four[k]'hlt) (List.getElem_mem _) o a m wr p1 p2 hmW
        generalize four[k]'hlt = p at *
        have HRS := Lib.hid hr
        clear hr hmW hbel
        go_wp2_with (fail)
        refine HRS.out.mono ?_
        rintro e w2 ⟨rfl, hw2⟩
        have q3 := (hw2.cell (p := ⟨w.heap.size, 1, none⟩) (World.block_lt_of_cell? _ _ q1)).trans q1
        go_wp2_with (fail)
        go_roundw
        case rel => exact ⟨k + 1, by omega, by go_num, Lib.hid (HB.out.trans (hw2.mono HB.out.size)), Lib.hid (HR.out.below hw2)⟩
        case measure => simp [intOf]; omega
      · obtain rfl : k = 4 := by omega
        have hl1 := longerM_comm b a
        have hll : (longerM a b).length ≤ 3000 := by rcases longerM_or a b with h | h <;> rw [h] <;> omega
        have hBB := hB1.trans (hbel.mono hB1.size)
        have HLL := Lib.hid hll
        clear hll hmW hbel HR
        go_wp2_with (fail)
        refine (Run_longer o a b _ (by have := HLL.out; omega)).mono ?_
        rintro e w2 ⟨rfl, hw2⟩
        have r0 := (hw2.cell (p := ⟨w.heap.size, 0, none⟩) (World.block_lt_of_cell? _ _ q0)).trans q0
        have r1 := (hw2.cell (p := ⟨w.heap.size, 1, none⟩) (World.block_lt_of_cell? _ _ q1)).trans q1
        have r2 := (hw2.cell (p := ⟨w.heap.size, 2, none⟩) (World.block_lt_of_cell? _ _ q2)).trans q2
        have hB2 := hBB.trans (hw2.mono hBB.size)
        clear hw2
        go_wp2_with (fail)
        refine (Run_longer [] b a _ (by rw [hl1]; have := HLL.out; omega)).mono ?_
        rw [hl1]
        rintro e w3 ⟨rfl, hw3⟩
        have s0 := (hw3.cell (p := ⟨w.heap.size, 0, none⟩) (World.block_lt_of_cell? _ _ r0)).trans r0
        have s1 := (hw3.cell (p := ⟨w.heap.size, 1, none⟩) (World.block_lt_of_cell? _ _ r1)).trans r1
        have s2 := (hw3.cell (p := ⟨w.heap.size, 2, none⟩) (World.block_lt_of_cell? _ _ r2)).trans r2
        have hB3 := hB2.trans (hw3.mono hB2.size)
        clear hw3
        go_wp2_with (fail)
        refine (Run_a o a b _ (by omega)).mono ?_
        rintro e w4 ⟨rfl, hw4⟩
        have u0 := (hw4.cell (p := ⟨w.heap.size, 0, none⟩) (World.block_lt_of_cell? _ _ s0)).trans s0
        have u1 := (hw4.cell (p := ⟨w.heap.size, 1, none⟩) (World.block_lt_of_cell? _ _ s1)).trans s1
        have u2 := (hw4.cell (p := ⟨w.heap.size, 2, none⟩) (World.block_lt_of_cell? _ _ s2)).trans s2
        have hB4 := hB3.trans (hw4.mono hB3.size)
        clear hw4
        go_wp2_with (fail)
        refine (Run_b o a b _ (by omega)).mono ?_
        rintro e w5 ⟨rfl, hw5⟩
        have v0 := (hw5.cell (p := ⟨w.heap.size, 0, none⟩) (World.block_lt_of_cell? _ _ u0)).trans u0
        have v1 := (hw5.cell (p := ⟨w.heap.size, 1, none⟩) (World.block_lt_of_cell? _ _ u1)).trans u1
        have v2 := (hw5.cell (p := ⟨w.heap.size, 2, none⟩) (World.block_lt_of_cell? _ _ u2)).trans u2
        have hB5 := hB4.trans (hw5.mono hB4.size)
        clear hw5
        have hor : ((longerM a b == a) || (longerM a b == b)) = true := by rcases longerM_or a b with h | h <;> rw [h] <;> simp
        generalize longerM a b = L at *
        cases he : L == a with
        | true =>
          go_wp2_with (fail)
          go_ret
          exact ⟨rfl, hB5⟩
        | false =>
          rw [he] at hor
          have he2 : (L == b) = true := hor
          go_wp2_with (fail)
          go_ret
          exact ⟨rfl, hB5⟩
  · by_cases e1 : 3000 < o.length
    · have d1 : decide ((3000 : Int) < o.length) = true := by simp; omega
      go_enter Tryd.func6, Tryd.ntmps6
      go_wp2_with (fail)
      refine HAW.out.mono ?_
      rintro e w1 ⟨rfl, hw1⟩
      have c0 := (hw1.cell (p := ⟨w.heap.size, 0, none⟩) (show w.heap.size < _ by simp)).trans (cell_of_row _ _ _ _ _ (0, 0) (heap_alloc_new w _))
      simp only [List.getElem?_toArray, List.getElem?_cons_zero, List.getElem?_cons_succ] at c0
      have hB1 := hB0.trans (hw1.mono hB0.size)
      clear h1
      go_wp2_with (fail)
      go_ret
      exact ⟨rfl, hB1⟩
    · have d1 : decide ((3000 : Int) < o.length) = false := by simp; omega
      by_cases e2 : 3000 < a.length
      · have d2 : decide ((3000 : Int) < a.length) = true := by simp; omega
        go_enter Tryd.func6, Tryd.ntmps6
        go_wp2_with (fail)
        refine HAW.out.mono ?_
        rintro e w1 ⟨rfl, hw1⟩
        have c0 := (hw1.cell (p := ⟨w.heap.size, 0, none⟩) (show w.heap.size < _ by simp)).trans (cell_of_row _ _ _ _ _ (0, 0) (heap_alloc_new w _))
        have c1 := (hw1.cell (p := ⟨w.heap.size, 1, none⟩) (show w.heap.size < _ by simp)).trans (cell_of_row _ _ _ _ _ (0, 0) (heap_alloc_new w _))
        simp only [List.getElem?_toArray, List.getElem?_cons_zero, List.getElem?_cons_succ] at c0 c1
        have hB1 := hB0.trans (hw1.mono hB0.size)
        clear h1
        go_wp2_with (fail)
        go_ret
        exact ⟨rfl, hB1⟩
      · have d2 : decide ((3000 : Int) < a.length) = false := by simp; omega
        have d3 : decide ((3000 : Int) < b.length) = true := by simp; omega
        go_enter Tryd.func6, Tryd.ntmps6
        go_wp2_with (fail)
        refine HAW.out.mono ?_
        rintro e w1 ⟨rfl, hw1⟩
        have c0 := (hw1.cell (p := ⟨w.heap.size, 0, none⟩) (show w.heap.size < _ by simp)).trans (cell_of_row _ _ _ _ _ (0, 0) (heap_alloc_new w _))
        have c1 := (hw1.cell (p := ⟨w.heap.size, 1, none⟩) (show w.heap.size < _ by simp)).trans (cell_of_row _ _ _ _ _ (0, 0) (heap_alloc_new w _))
        have c2 := (hw1.cell (p := ⟨w.heap.size, 2, none⟩) (show w.heap.size < _ by simp)).trans (cell_of_row _ _ _ _ _ (0, 0) (heap_alloc_new w _))
        simp only [List.getElem?_toArray, List.getElem?_cons_zero, List.getElem?_cons_succ] at c0 c1 c2
        have hB1 := hB0.trans (hw1.mono hB0.size)
        clear h1
        go_wp2_with (fail)
        go_ret
        exact ⟨rfl, hB1⟩

end Go.Proofs.YtgbiddjkjdggpaaDoor
