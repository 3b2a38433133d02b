/- strings' cutting at one byte. -/
import Derived.Test.YtgppfcaghjbjmaaDoorPlainCut
import Derived.Test.YtgppfcaghjbjmaaDoorWords
import Derived.Test.YtgppfcaghjbjmaaDoorShelf
namespace Go.Proofs.YtgppfcaghjbjmaaDoor
open Go.RowKit Plain

theorem map_strs (l : List ByteArray) : l.map Value.string = strs (l.map (·.data.toList)) := by
  rw [strs, List.map_map]
  apply List.map_congr_left
  intro b _
  simp [strV]

theorem genSplit_cut (s : List UInt8) (c : UInt8) (sv : Nat) (m : Int) (w : World) (hsv : sv ≤ 1) (hs : s.length < 4294967281) (hm : w.cell? ⟨0, 0, none⟩ = some (.int .i64 m)) :
    Calls Tryd.prog 42 #[.string ⟨s.toArray⟩, .string ⟨#[c]⟩, .int .i64 sv, .int .i64 (-1)] w fun e w' =>
      e = .returned (.slice (some ⟨w.heap.size, 0, none⟩) (cutAt c (if sv = 1 then [c] else []) s).length (cutAt c (if sv = 1 then [c] else []) s).length) ∧ w' = w.alloc (.cells (strs (cutAt c (if sv = 1 then [c] else []) s)).toArray 9) := by
  have hc : s.count c ≤ s.length := List.count_le_length
  have hcB : Lib.countB ⟨s.toArray⟩ ⟨#[c]⟩ = s.count c := by
    show Lib.count s [c] = _
    rw [Lib.count_one]
  have hl := cutAt_length c (if sv = 1 then [c] else []) s
  have hsp := splitB_cut c sv hsv (s.count c) s (Nat.le_refl _)
  have h := Tryd.strings_genSplit ⟨s.toArray⟩ ⟨#[c]⟩ sv (-1) (s.count c + 1) m w (by simpa [ByteArray.size] using hs) hm (Nat.le_refl _) hsv (by decide) (by decide) (by rw [hcB, if_pos (by decide)]; simp [ByteArray.size]; omega)
  rw [Nat.add_sub_cancel] at h
  have hlen : (Lib.splitB ⟨#[c]⟩ sv (s.count c) ⟨s.toArray⟩).length = s.count c + 1 := by
    have := congrArg List.length hsp
    rw [List.length_map, hl] at this
    exact this
  rw [hlen] at h
  rw [hl]
  refine h.mono fun e w' ⟨he, hw⟩ => ⟨he, ?_⟩
  rw [hw]
  unfold Lib.cellsOf
  rw [hlen, Nat.sub_self, List.replicate_zero, List.append_nil, map_strs, hsp]
end Go.Proofs.YtgppfcaghjbjmaaDoor
