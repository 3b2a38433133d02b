/- The listed tables, as a call may lean on them. -/
import Derived.Test.YtgppfcaghjbjmaaDoorValid
import Derived.Test.YtgppfcaghjbjmaaDoorNameFns
import Derived.Test.YtgppfcaghjbjmaaDoorCellMax
import Derived.Test.YtgppfcaghjbjmaaDoorCards
import Derived.LaidMore
namespace Go.Proofs.YtgppfcaghjbjmaaDoor
open Go.RowKit

theorem extra196 : Go.Proofs.U8Extra Tryd.prog lays196_ren := {
  n3 := by kernel_rfl
  n4 := by kernel_rfl
  y3 := by kernel_rfl
  y4 := by kernel_rfl
  c5 := by kernel_rfl
  c119 := by kernel_rfl
  c138 := by kernel_rfl }
theorem first_same : Lib.firstData = Rows.laid_unicode_utf8_first := by kernel_rfl
theorem accept_same : Lib.acceptData = Rows.laid_unicode_utf8_acceptRanges := by kernel_rfl
theorem tabs_of_laid {W : World} (h : laidMetH Tryd.prog [("unicode/utf8.acceptRanges", Rows.laid_unicode_utf8_acceptRanges), ("unicode/utf8.first", Rows.laid_unicode_utf8_first)] W) : Tabs W := by
  rw [MakeChecks.laidMetH_plain _ _ _ (by kernel_rfl)] at h
  obtain ⟨ps, hps, _⟩ := h
  exact Go.Proofs.utf8Tabs_of_readsT (Go.Proofs.U8Types.of196 lays196) extra196 (by rw [first_same]; exact Lib.LaidVars_reads hps _ _ (by simp)) (by rw [accept_same]; exact Lib.LaidVars_reads hps _ _ (by simp))
theorem laid_of {W : World} (hL : laidMetH Tryd.prog [("unicode/utf8.acceptRanges", Rows.laid_unicode_utf8_acceptRanges), ("unicode/utf8.first", Rows.laid_unicode_utf8_first)] W) (hS : W.ShapedOpen Tryd.prog) : ∃ m, Laid W m := by
  obtain ⟨m, hm⟩ := cell_maxLen hS
  exact ⟨m, tabs_of_laid hL, hm⟩
end Go.Proofs.YtgppfcaghjbjmaaDoor
