/- hawserlaw01.awake. -/
import Derived.Test.YtpfpjinkifggdaaDoorOrder
namespace Go.Proofs.YtpfpjinkifggdaaDoor
open Go.RowKit Plain

theorem aw_join : joinOK [[97], [98]] = true := by decide +kernel
theorem aw_p1 : pathOK [97, 47, 98] = true := by decide +kernel
theorem aw_p2 : pathOK [97, 47, 47, 98] = false := by decide +kernel
theorem aw_w : withinM [97, 47, 98] [97] = true := by decide +kernel

theorem awake_any (m : Int) (w : World) (hL : Laid w m) :
    Calls Tryd.prog 8 #[] w (Ret w (.bool true)) := by
  have hl := laid_strs w [[97], [98]] 9
  have hB0 : Below w.heap.size w (w.alloc (.cells (strs [[97], [98]]).toArray 9)) := (Below.refl _ _).alloc (Nat.le_refl _) _
  have hJ := Join_name (some ⟨w.heap.size, 0, none⟩) 2 [[97], [98]] _ (hL.below hB0).tabs hl (by decide) (by decide) (by decide) (by decide)
  rw [aw_join, if_pos rfl] at hJ
  have HJ := Lib.hid hJ
  have HB0 := Lib.hid hB0
  have hP1 := fun W (h : Below w.heap.size w W) => Path_any [97, 47, 98] W (hL.below h).tabs
  rw [aw_p1] at hP1
  have hP2 := fun W (h : Below w.heap.size w W) => Path_any [97, 47, 47, 98] W (hL.below h).tabs
  rw [aw_p2] at hP2
  have hW := fun W (h : Below w.heap.size w W) => Within_any [97, 47, 98] [97] W (hL.below h).tabs
  rw [aw_w] at hW
  have HP1 := Lib.hid hP1
  have HP2 := Lib.hid hP2
  have HW := Lib.hid hW
  clear hJ hB0 hP1 hP2 hW hl hL
  go_enter Tryd.func8, Tryd.ntmps8
  go_wp2_with (fail)
  refine HJ.out.mono ?_
  rintro e w1 ⟨rfl, hw1⟩
  have hB1 := HB0.out.trans (hw1.mono HB0.out.size)
  clear hw1
  go_wp2_with (fail)
  refine (HP1.out w1 hB1).mono ?_
  rintro e w2 ⟨rfl, hw2⟩
  have hB2 := hB1.trans (hw2.mono hB1.size)
  clear hw2 hB1
  go_wp2_with (fail)
  refine (HP2.out w2 hB2).mono ?_
  rintro e w3 ⟨rfl, hw3⟩
  have hB3 := hB2.trans (hw3.mono hB2.size)
  clear hw3 hB2
  go_wp2_with (fail)
  refine (HW.out w3 hB3).mono ?_
  rintro e w4 ⟨rfl, hw4⟩
  have hB4 := hB3.trans (hw4.mono hB3.size)
  clear hw4 hB3
  go_wp2_with (fail)
  go_ret
  exact ⟨rfl, hB4⟩
end Go.Proofs.YtpfpjinkifggdaaDoor
