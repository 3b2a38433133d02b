/- A library's variable holds some int. -/
import Derived.Test.YtgppfcaghjbjmaaDoorShelf
import Derived.Test.YtgppfcaghjbjmaaDoorLib
import Derived.Shelf.Vars
namespace Go.Proofs.YtgppfcaghjbjmaaDoor
open Go.RowKit
theorem cell_maxLen {W : World} (hS : W.ShapedOpen Tryd.prog) : ∃ m, W.cell? ⟨0, 0, none⟩ = some (.int .i64 m) :=
  cell_of_shapedOpen_int (zero := #[.int .i64 0]) (t := 3) hS (of_decide_eq_true (by kernel_rfl)) (by kernel_rfl) rfl (by kernel_rfl) (by kernel_rfl) Tryd.underlying3
end Go.Proofs.YtgppfcaghjbjmaaDoor
