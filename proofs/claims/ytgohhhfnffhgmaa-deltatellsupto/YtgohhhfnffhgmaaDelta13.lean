/- hawserlaw14.awake: a text is told by another one. -/
import Derived.Test.YtgohhhfnffhgmaaDelta12
import Derived.Test.YtgohhhfnffhgmaaPlainDelta5
namespace Go.Proofs.Ytgohhhfnffhgmaa
open Go.RowKit Plain

theorem told_w {base : List UInt8} {size : Nat} : ∀ b ∈ signP base size, b.w < 4294967296 := by
  intro b hb
  obtain ⟨x, -, rfl⟩ := List.mem_map.1 hb
  exact weak_lt x
theorem sign_len {base : List UInt8} {size : Nat} (hs : 1 ≤ size) : (signP base size).length ≤ base.length := by rw [signP_length]; exact countB_le hs

set_option maxRecDepth 100000 in
set_option maxHeartbeats 2000000 in
theorem awake_any (w : World) : Calls Try.prog 6 #[] w (Ret w (.bool true)) := by
  have hS : ((signP tB 4).length : Nat) = 2 := by rw [t_sign]; rfl
  have HS := Lib.hid hS
  have hsg := fun W => Sign_any tB 4 W (by omega) (by omega) (by decide)
  rw [hS] at hsg
  have hsl := sign_len (base := tB) (size := 4) (by omega)
  have HSG := Lib.hid hsg
  clear hsg hS
  go_enter Try.func6, Try.ntmps6
  go_wp2_with (fail)
  refine (HSG.out w).mono ?_
  rintro e w1 ⟨v1, rfl, hv1, hb1⟩
  have hL : BlksAt w1 w.heap.size v1 (signP tB 4) := by unfold BlksAt; rw [HS.out]; exact hv1
  obtain ⟨A1, c1, hv⟩ := hL.slice
  rw [HS.out] at hv
  subst hv
  have hmk := Make_any w.heap.size _ (signP tB 4) tD 4 w1 hL (by omega) (by omega) (by decide) (by rw [HS.out]; omega) told_w
  rw [t_make] at hmk
  have HMK := Lib.hid hmk
  have HB1 := Lib.hid hb1
  clear hmk hL hv1 hb1 HSG
  go_wp2_with (fail)
  refine HMK.out.mono ?_
  rintro e w2 ⟨v2, rfl, hv2, hb2⟩
  obtain ⟨A2, c2, hv⟩ := hv2.slice
  subst hv
  have hr := rows_of_own hv2
  have hap := Apply_any A2 c2 [⟨0, 0, [120]⟩, ⟨0, 2, []⟩] tB 4 w2 hr (by
    intro o ho
    simp at ho
    rcases ho with rfl | rfl <;> (unfold OkI; simp)) (by omega) (by omega) (by decide) (by simp)
  rw [t_apply] at hap
  have HAP := Lib.hid hap
  have HB2 := Lib.hid (HB1.out.trans (hb2.mono HB1.out.size))
  have HR := Lib.hid hr
  clear hap hr hv2 hb2 HMK HB1
  go_wp2_with (fail)
  refine HAP.out.mono ?_
  rintro e w3 ⟨rfl, hb3⟩
  have HB3 := Lib.hid (HB2.out.trans (hb3.mono HB2.out.size))
  have hnw := New_any A2 c2 [⟨0, 0, [120]⟩, ⟨0, 2, []⟩] w3 (HR.out.below hb3) (by simp) (by decide)
  have HNW := Lib.hid hnw
  clear hnw hb3 HAP HR HB2
  go_wp2_with (fail)
  refine HNW.out.mono ?_
  rintro e w4 ⟨rfl, hb4⟩
  have hn1 : newP [⟨0, 0, [120]⟩, ⟨0, 2, []⟩] = 1 := rfl
  rw [hn1]
  go_wp2_with (fail)
  go_ret
  exact ⟨rfl, HB3.out.trans (hb4.mono HB3.out.size)⟩

end Go.Proofs.Ytgohhhfnffhgmaa
