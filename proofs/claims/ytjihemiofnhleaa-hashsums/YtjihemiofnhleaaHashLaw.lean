/- What all laws of chapter 4 ask first. -/
import Derived.Test.YtjihemiofnhleaaSha2
import Derived.Test.YtjihemiofnhleaaHashCrc
namespace Go.Proofs.Ytjihemiofnhleaa
open Go.RowKit Plain

set_option maxHeartbeats 1000000 in
theorem awake_any (w : World) : Calls Try.prog 8 #[] w (Ret w (.bool true)) := by
  have hS := fun w => Sum_any [97, 98, 99] w (by decide)
  rw [sha_abc] at hS
  have hC := fun w => Crc_any [49, 50, 51, 52, 53, 54, 55, 56, 57] w (by decide)
  rw [show crc [49, 50, 51, 52, 53, 54, 55, 56, 57] = 3421780262 by decide +kernel] at hC
  go_enter Try.func8, Try.ntmps8
  go_wp2_with (fail)
  refine (hS _).mono ?_
  rintro e w1 ⟨rfl, hb1⟩
  go_wp2_with (fail)
  refine (Ret.quiet (hb1) (hC _)).mono ?_
  rintro e w2 ⟨rfl, hb2⟩
  go_wp2_with (fail)
  go_ret
  exact ⟨rfl, hb2⟩
end Go.Proofs.Ytjihemiofnhleaa
