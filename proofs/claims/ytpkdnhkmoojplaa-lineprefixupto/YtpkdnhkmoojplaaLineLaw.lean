/- A message comes: what all laws of the line ask first. -/
import Derived.Test.YtpkdnhkmoojplaaLine7
import Derived.Test.YtpkdnhkmoojplaaLine2
import Derived.Test.YtpkdnhkmoojplaaPlain15c
namespace Go.Proofs.Ytpkdnhkmoojplaa
open Go.RowKit Plain

theorem reads_one (w : World) (s : List UInt8) (t : TypeId) : Reads (w.alloc (.cells #[.string ⟨s.toArray⟩] t)) 1 (some ⟨w.heap.size, 0, none⟩) 1 (strs [s]) := by
  refine ⟨rfl, fun _ => ⟨_, rfl, fun j u hu => ?_⟩⟩
  have hj : j = 0 := by have := (List.getElem?_eq_some_iff.1 hu).1; simp [strs] at this; omega
  subst hj
  have hx : u = .string ⟨s.toArray⟩ := by simpa [strs, strV] using hu.symm
  subst hx
  exact cell_of_row _ _ 0 _ _ _ (heap_alloc_new w _)

set_option maxHeartbeats 400000 in
theorem awake_any (w : World) : Calls Try.prog 6 #[] w (Ret w (.bool true)) := by
  have hall : ∀ p ∈ [[(97 : UInt8)]], p.length ≤ 1048576 := by simp
  have hp := packL_ok hall
  have hlen : (frames 0 [[97]]).length = 13 := by simp [frames, frame_length]
  have hkk : ((frames 0 [[97]]).length : Int) = 13 := by rw [hlen]; rfl
  have hcar : carry (frames 0 [[97]]) (-1) 0 0 = frames 0 [[97]] := carry_whole (by omega) (by omega)
  have hread : readL 0 (frames 0 [[97]]) = ([[97]], 0) := by
    have := read_frames [[97]] 0 [] hall
    rw [List.append_nil, read_nil] at this
    simpa using this
  have hP := Pack_any (some ⟨w.heap.size, 0, none⟩) 1 [[97]] _ (reads_one w [97] 9) (by simp) (by omega) (by simp)
  rw [hp] at hP
  have HR := Lib.hid hread
  have HC := Lib.hid hcar
  clear hread hcar hp
  go_enter Try.func6, Try.ntmps6
  go_wp2_with (fail)
  refine hP.mono ?_
  rintro e w1 ⟨rfl, hb1⟩
  have hb0 := (Below.refl w.heap.size w).alloc (Nat.le_refl _) (.cells #[.string ⟨#[97]⟩] 9)
  have hb := hb0.trans (hb1.mono (by simp))
  clear hb0
  have hCa := Carry_any (frames 0 [[97]]) (-1) 0 0 w1 (by omega) (by omega) (by omega)
  rw [HC.out] at hCa
  have hRa := fun w => Read_any (frames 0 [[97]]) w (by omega) (by rw [HR.out]; simp)
  rw [HR.out] at hRa
  generalize frames 0 [[97]] = F at *
  clear hP hall
  go_wp2_with (fail)
  refine hCa.mono ?_
  rintro e w2 ⟨rfl, hb2⟩
  have hbb := hb.trans (hb2.mono hb.size)
  go_wp2_with (fail)
  refine (hRa _).mono ?_
  rintro e w3 ⟨v, rfl, hv, hb3⟩
  have hbbb := hbb.trans (hb3.mono hbb.size)
  obtain ⟨A, c, rfl, _, _, hr⟩ := hv
  obtain ⟨ad, rfl, hcell⟩ := hr.str_at (l := [[97]]) (k := 0) (by simp)
  rw [Addr.add_zero'] at hcell
  have hcell' : w3.cell? ad = some (.string ⟨#[97]⟩) := hcell
  clear hcell
  go_wp2_with (fail)
  go_ret
  exact ⟨rfl, hbbb⟩
end Go.Proofs.Ytpkdnhkmoojplaa
