/- What is left of a reader's bytes, and its fault; a new reader; what is written; and what all laws of chapter 3 ask first. -/
import Derived.Test.YtlhgjgiflijobaaCode5
namespace Go.Proofs.Ytlhgjgiflijobaa
open Go.RowKit Plain

set_option maxHeartbeats 400000 in
theorem bLeft_any (br bb : Nat) (s : List UInt8) (f : Nat) (w : World) (h : Rd br bb (s, f) w) : Calls Try.prog 26 #[.pointer (some ⟨bb, 0, none⟩)] w (Ret w (.int .i64 s.length)) := by
  obtain ⟨d, d0, d1, g0, g1⟩ := h.facts
  go_enter Try.func26, Try.ntmps26
  go_wp2_with (fail)
  go_ret
  exact ⟨rfl, Below.refl _ _⟩
set_option maxHeartbeats 400000 in
theorem RLeft_any (br bb : Nat) (s : List UInt8) (f : Nat) (w : World) (h : Rd br bb (s, f) w) : Calls Try.prog 16 #[.pointer (some ⟨br, 0, none⟩)] w (Ret w (.int .i64 s.length)) := by
  obtain ⟨d, d0, d1, g0, g1⟩ := h.facts
  go_enter Try.func16, Try.ntmps16
  go_wp2_with (fail)
  refine (Ret.quiet (Below.refl _ _) (bLeft_any br bb s f _ h)).mono ?_
  rintro e w1 ⟨rfl, hb1⟩
  go_wp2_with (fail)
  go_ret
  exact ⟨rfl, hb1⟩
set_option maxHeartbeats 400000 in
theorem bEnd_any (br bb : Nat) (s : List UInt8) (f : Nat) (w : World) (h : Rd br bb (s, f) w) : Calls Try.prog 24 #[.pointer (some ⟨bb, 0, none⟩)] w (Ret w (.int .i64 (endR (s, f) : Nat))) := by
  obtain ⟨d, d0, d1, g0, g1⟩ := h.facts
  by_cases hf : f = 0
  · subst hf
    cases s with
    | nil =>
      go_enter Try.func24, Try.ntmps24
      go_wp2_with (fail)
      go_ret
      exact ⟨rfl, Below.refl _ _⟩
    | cons c r =>
      have he : endR (c :: r, 0) = 32 := by simp [endR]
      rw [he]
      clear he
      go_enter Try.func24, Try.ntmps24
      go_wp2_with (fail)
      go_ret
      exact ⟨rfl, Below.refl _ _⟩
  · have he : endR (s, f) = f := by simp [endR, hf]
    have he2 : ((f : Int) == 0) = false := by simpa using hf
    rw [he]
    clear he
    go_enter Try.func24, Try.ntmps24
    go_wp2_with (fail)
    go_ret
    exact ⟨rfl, Below.refl _ _⟩
set_option maxHeartbeats 400000 in
theorem REnd_any (br bb : Nat) (s : List UInt8) (f : Nat) (w : World) (h : Rd br bb (s, f) w) : Calls Try.prog 12 #[.pointer (some ⟨br, 0, none⟩)] w (Ret w (.int .i64 (endR (s, f) : Nat))) := by
  obtain ⟨d, d0, d1, g0, g1⟩ := h.facts
  have hE := bEnd_any br bb s f w h
  generalize endR (s, f) = e at *
  go_enter Try.func12, Try.ntmps12
  go_wp2_with (fail)
  refine hE.mono ?_
  rintro _ w1 ⟨rfl, hb1⟩
  go_wp2_with (fail)
  go_ret
  exact ⟨rfl, hb1⟩
set_option maxHeartbeats 400000 in
theorem New_any (s : List UInt8) (w : World) (hs : s.length ≤ 140737488355328) :
    Calls Try.prog 10 #[.string ⟨s.toArray⟩] w fun e w' => e = .returned (.pointer (some ⟨w.heap.size + 1, 0, none⟩)) ∧ (Rd (w.heap.size + 1) w.heap.size (s, 0) w' ∧ Below w.heap.size w w') := by
  have hR : Rd (w.heap.size + 1) w.heap.size (s, 0) ((w.alloc (.cells #[.string ⟨s.toArray⟩, .int .i64 0] 47)).alloc (.cells #[.pointer (some ⟨w.heap.size, 0, none⟩)] 49)) := by
    refine ⟨by omega, ?_, ?_, hs⟩
    · simpa using heap_alloc_new (w.alloc (.cells #[.string ⟨s.toArray⟩, .int .i64 0] 47)) (.cells #[.pointer (some ⟨w.heap.size, 0, none⟩)] 49)
    · exact (Below.heap_alloc _ _ _ (by simp)).trans (heap_alloc_new w _)
  have HR := Lib.hid hR
  clear hR
  go_enter Try.func10, Try.ntmps10
  go_wp2_with (fail)
  go_ret
  exact ⟨rfl, HR.out, ((Below.refl w.heap.size w).alloc (Nat.le_refl _) _).alloc (by simp) _⟩

def textB (s : List UInt8) : List UInt8 := numB s.length ++ s
set_option maxHeartbeats 400000 in
theorem Text_any (s : List UInt8) (w : World) (hs : s.length ≤ 140737488355328) : Calls Try.prog 9 #[.string ⟨s.toArray⟩] w (Ret w (.string ⟨(textB s).toArray⟩)) := by
  have hl : (numB s.length).length ≤ 9 := numF_length 9 _
  go_enter Try.func9, Try.ntmps9
  go_wp2_with (fail)
  refine (Ret.quiet (Below.refl _ _) (Num_any s.length _ (by omega))).mono ?_
  rintro e w1 ⟨rfl, hb1⟩
  go_wp2_with (fail)
  go_ret
  exact ⟨rfl, hb1⟩
def flagB (b : Bool) : List UInt8 := if b then [1] else [0]
set_option maxHeartbeats 400000 in
theorem Flag_any (b : Bool) (w : World) : Calls Try.prog 14 #[.bool b] w (Ret w (.string ⟨(flagB b).toArray⟩)) := by
  cases b
  all_goals
    go_enter Try.func14, Try.ntmps14
    go_wp2_with (fail)
    go_ret
    exact ⟨rfl, Below.refl _ _⟩

theorem Num_neg (n : Int) (w : World) (h : n < 0) : Calls Try.prog 8 #[.int .i64 n] w (Ret w (.string ⟨#[]⟩)) := by
  go_enter Try.func8, Try.ntmps8
  go_wp2_with (fail)
  go_ret
  exact ⟨rfl, Below.refl _ _⟩

set_option maxHeartbeats 1000000 in
theorem awake_any (w : World) : Calls Try.prog 7 #[] w (Ret w (.bool true)) := by
  have e1 : textB [97, 98] = [2, 97, 98] := by decide +kernel
  have e2 : numB 128 = [128, 1] := by decide +kernel
  have e3 : takeR (passText 9) ([2, 97, 98], 0) = (2, ([], 0)) := by decide +kernel
  have e4 : textR 9 ([2, 97, 98], 0) = [97, 98] := by decide +kernel
  have e5 : endR ([], 0) = 0 := by decide +kernel
  have hT := Text_any [97, 98] w (by decide)
  rw [e1] at hT
  have hN := fun w => Num_any 128 w (by decide)
  rw [e2] at hN
  have hRT := fun br bb w => RText_any br bb 9 [2, 97, 98] 0 w
  rw [e3, e4] at hRT
  have hE := fun br bb w => REnd_any br bb [] 0 w
  rw [e5] at hE
  clear e1 e2 e3 e4 e5
  go_enter Try.func7, Try.ntmps7
  go_wp2_with (fail)
  refine hT.mono ?_
  rintro _ w1 ⟨rfl, hb1⟩
  go_wp2_with (fail)
  refine (New_any _ _ (by simp)).mono ?_
  rintro _ w2 ⟨rfl, hr2, hb2⟩
  have hz := hb1.size
  have hb := hb1.trans (hb2.mono hz)
  generalize hbr : w1.heap.size + 1 = br at *
  generalize hbb : w1.heap.size = bb at *
  clear hbr hbb hT hb2
  go_wp2_with (fail)
  refine (hN _).mono ?_
  rintro _ w3 ⟨rfl, hb3⟩
  have hr3 := hr2.below hb3
  have hbb := hb.trans (hb3.mono hb.size)
  go_wp2_with (fail)
  refine (hRT _ _ _ hr3).mono ?_
  rintro _ w4 ⟨rfl, hr4, hg4⟩
  have hb4 := below_gb hbb hbb.size hg4 hz
  go_wp2_with (fail)
  refine (hE _ _ _ hr4).mono ?_
  rintro _ w5 ⟨rfl, hb5⟩
  go_wp2_with (fail)
  go_ret
  exact ⟨rfl, hb4.trans (hb5.mono hb4.size)⟩
end Go.Proofs.Ytlhgjgiflijobaa
