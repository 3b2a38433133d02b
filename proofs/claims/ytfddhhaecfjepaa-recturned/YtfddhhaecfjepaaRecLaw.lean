/- A record there and back: what all laws of records ask first. -/
import Derived.Test.YtfddhhaecfjepaaRec5
import Derived.Test.YtfddhhaecfjepaaPlain05b
namespace Go.Proofs.Ytfddhhaecfjepaa
open Go.RowKit Plain

set_option maxHeartbeats 400000 in
theorem awake_any (w : World) : Calls Try.prog 8 #[] w (Ret w (.bool true)) := by
  have h1 := one_record [97] (by simp)
  have hl := record_length [97]
  have hk : ((record [97]).length : Int) = 9 := by rw [hl]; rfl
  go_enter Try.func8, Try.ntmps8
  go_wp2_with (fail)
  refine (Ret.quiet (Below.refl _ _) (Pack_any [97] _ (by simp))).mono ?_
  rintro e w1 ⟨rfl, hb1⟩
  go_wp2_with (fail)
  refine (Ret.quiet (hb1) (One_any (record [97]) _ (by omega))).mono ?_
  rintro e w2 ⟨rfl, hb2⟩
  go_wp2_with (fail)
  go_ret
  exact ⟨rfl, hb2⟩
end Go.Proofs.Ytfddhhaecfjepaa
