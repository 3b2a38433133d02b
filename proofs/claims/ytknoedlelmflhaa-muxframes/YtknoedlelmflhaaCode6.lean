/- What is left of a reader's bytes, and its fault; a new reader; what is written; and what all laws of chapter 3 ask first. -/
import Derived.Test.YtknoedlelmflhaaCode5
namespace Go.Proofs.Ytknoedlelmflhaa
open Go.RowKit Plain

set_option maxRecDepth 100000 in
set_option maxHeartbeats 400000 in
theorem bEnd_any (br bb : Nat) (s : List UInt8) (f : Nat) (w : World) (h : Rd br bb (s, f) w) : Calls Try.prog 54 #[.pointer (some ⟨bb, 0, none⟩)] w (Ret w (.int .i64 (endR (s, f) : Nat))) := by
  obtain ⟨d, d0, d1, g0, g1⟩ := h.facts
  by_cases hf : f = 0
  · subst hf
    cases s with
    | nil =>
      go_enter Try.func54, Try.ntmps54
      go_wp2_with (fail)
      go_ret
      exact ⟨rfl, Below.refl _ _⟩
    | cons c r =>
      have he : endR (c :: r, 0) = 32 := by simp [endR]
      rw [he]
      clear he
      go_enter Try.func54, Try.ntmps54
      go_wp2_with (fail)
      go_ret
      exact ⟨rfl, Below.refl _ _⟩
  · have he : endR (s, f) = f := by simp [endR, hf]
    have he2 : ((f : Int) == 0) = false := by simpa using hf
    rw [he]
    clear he
    go_enter Try.func54, Try.ntmps54
    go_wp2_with (fail)
    go_ret
    exact ⟨rfl, Below.refl _ _⟩
set_option maxRecDepth 100000 in
set_option maxHeartbeats 400000 in
theorem REnd_any (br bb : Nat) (s : List UInt8) (f : Nat) (w : World) (h : Rd br bb (s, f) w) : Calls Try.prog 42 #[.pointer (some ⟨br, 0, none⟩)] w (Ret w (.int .i64 (endR (s, f) : Nat))) := by
  obtain ⟨d, d0, d1, g0, g1⟩ := h.facts
  have hE := bEnd_any br bb s f w h
  generalize endR (s, f) = e at *
  go_enter Try.func42, Try.ntmps42
  go_wp2_with (fail)
  refine hE.mono ?_
  rintro _ w1 ⟨rfl, hb1⟩
  go_wp2_with (fail)
  go_ret
  exact ⟨rfl, hb1⟩
set_option maxRecDepth 100000 in
set_option maxHeartbeats 400000 in
theorem New_any (s : List UInt8) (w : World) (hs : s.length ≤ 140737488355328) :
    Calls Try.prog 38 #[.string ⟨s.toArray⟩] w fun e w' => e = .returned (.pointer (some ⟨w.heap.size + 1, 0, none⟩)) ∧ (Rd (w.heap.size + 1) w.heap.size (s, 0) w' ∧ Below w.heap.size w w') := by
  have hR : Rd (w.heap.size + 1) w.heap.size (s, 0) ((w.alloc (.cells #[.string ⟨s.toArray⟩, .int .i64 0] 105)).alloc (.cells #[.pointer (some ⟨w.heap.size, 0, none⟩)] 107)) := by
    refine ⟨by omega, ?_, ?_, hs⟩
    · simpa using heap_alloc_new (w.alloc (.cells #[.string ⟨s.toArray⟩, .int .i64 0] 105)) (.cells #[.pointer (some ⟨w.heap.size, 0, none⟩)] 107)
    · exact (Below.heap_alloc _ _ _ (by simp)).trans (heap_alloc_new w _)
  have HR := Lib.hid hR
  clear hR
  go_enter Try.func38, Try.ntmps38
  go_wp2_with (fail)
  go_ret
  exact ⟨rfl, HR.out, ((Below.refl w.heap.size w).alloc (Nat.le_refl _) _).alloc (by simp) _⟩

def textB (s : List UInt8) : List UInt8 := numB s.length ++ s
set_option maxRecDepth 100000 in
set_option maxHeartbeats 400000 in
theorem CText_any (s : List UInt8) (w : World) (hs : s.length ≤ 140737488355328) : Calls Try.prog 36 #[.string ⟨s.toArray⟩] w (Ret w (.string ⟨(textB s).toArray⟩)) := by
  have hl : (numB s.length).length ≤ 9 := numF_length 9 _
  go_enter Try.func36, Try.ntmps36
  go_wp2_with (fail)
  refine (Ret.quiet (Below.refl _ _) (Num_any s.length _ (by omega))).mono ?_
  rintro e w1 ⟨rfl, hb1⟩
  go_wp2_with (fail)
  go_ret
  exact ⟨rfl, hb1⟩
def flagB (b : Bool) : List UInt8 := if b then [1] else [0]
set_option maxRecDepth 100000 in
set_option maxHeartbeats 400000 in
theorem Flag_any (b : Bool) (w : World) : Calls Try.prog 37 #[.bool b] w (Ret w (.string ⟨(flagB b).toArray⟩)) := by
  cases b
  all_goals
    go_enter Try.func37, Try.ntmps37
    go_wp2_with (fail)
    go_ret
    exact ⟨rfl, Below.refl _ _⟩

theorem Num_neg (n : Int) (w : World) (h : n < 0) : Calls Try.prog 35 #[.int .i64 n] w (Ret w (.string ⟨#[]⟩)) := by
  go_enter Try.func35, Try.ntmps35
  go_wp2_with (fail)
  go_ret
  exact ⟨rfl, Below.refl _ _⟩

end Go.Proofs.Ytknoedlelmflhaa
