/- Sizes out of range; how much is new; whether two lists of steps are the same. -/
import Derived.Test.YtgohhhfnffhgmaaDelta11
namespace Go.Proofs.Ytgohhhfnffhgmaa
open Go.RowKit Plain

set_option maxHeartbeats 1000000 in
theorem Make_bad (v : Value) (data : List UInt8) (size : Int) (w : World) (h : size < 1 ∨ 65536 < size) :
    Calls Try.prog 9 #[.string ⟨data.toArray⟩, v, .int .i64 size] w (Ret w (.tuple #[.slice none 0 0, .int .i64 2])) := by
  go_enter Try.func9, Try.ntmps9
  go_wp2_with (fail)
  refine (odd_bad size _ h).mono ?_
  rintro e w1 ⟨rfl, hb1⟩
  go_wp2_with (fail)
  go_ret2
  exact ⟨rfl, (below_alloc' w _).trans (hb1.mono (by simp))⟩
set_option maxHeartbeats 1000000 in
theorem Apply_bad (v : Value) (base : List UInt8) (size : Int) (w : World) (h : size < 1 ∨ 65536 < size) :
    Calls Try.prog 12 #[.string ⟨base.toArray⟩, .int .i64 size, v] w (Ret w (.tuple #[.string ⟨#[]⟩, .int .i64 2])) := by
  go_enter Try.func12, Try.ntmps12
  go_wp2_with (fail)
  refine (Ret.quiet (Below.refl _ _) (odd_bad size _ h)).mono ?_
  rintro e w1 ⟨rfl, hb1⟩
  go_wp2_with (fail)
  go_ret2
  exact ⟨rfl, hb1⟩
set_option maxHeartbeats 1000000 in
theorem Make_ref_bad (v : Value) (data : List UInt8) (size : Int) (w : World) (h : size < 1 ∨ 65536 < size) :
    Calls Try.prog 10 #[.string ⟨data.toArray⟩, v, .int .i64 size] w (Ret w (.tuple #[.slice none 0 0, .int .i64 2])) := by
  by_cases h1 : size < 1
  · have b1 : decide (size < 1) = true := decide_eq_true (by omega)
    clear h
    go_enter Try.func10, Try.ntmps10
    go_wp2_with (fail)
    go_ret2
    exact ⟨rfl, Below.refl _ _⟩
  · have b1 : decide (size < 1) = false := decide_eq_false (by omega)
    have b2 : decide (65536 < size) = true := decide_eq_true (by omega)
    clear h
    go_enter Try.func10, Try.ntmps10
    go_wp2_with (fail)
    go_ret2
    exact ⟨rfl, Below.refl _ _⟩
set_option maxHeartbeats 1000000 in
theorem Apply_ref_bad (v : Value) (base : List UInt8) (size : Int) (w : World) (h : size < 1 ∨ 65536 < size) :
    Calls Try.prog 13 #[.string ⟨base.toArray⟩, .int .i64 size, v] w (Ret w (.tuple #[.string ⟨#[]⟩, .int .i64 2])) := by
  by_cases h1 : size < 1
  · have b1 : decide (size < 1) = true := decide_eq_true (by omega)
    clear h
    go_enter Try.func13, Try.ntmps13
    go_wp2_with (fail)
    go_ret2
    exact ⟨rfl, Below.refl _ _⟩
  · have b1 : decide (size < 1) = false := decide_eq_false (by omega)
    have b2 : decide (65536 < size) = true := decide_eq_true (by omega)
    clear h
    go_enter Try.func13, Try.ntmps13
    go_wp2_with (fail)
    go_ret2
    exact ⟨rfl, Below.refl _ _⟩

set_option maxRecDepth 100000 in
set_option maxHeartbeats 2000000 in
theorem New_any (A : Option Addr) (ca : Nat) (l : List Stp) (w : World) (hL : IsRows w 3 A (l.map stpV)) (hl : l.length ≤ 4294967296) (hn : newP l ≤ 4611686018427387904) :
    Calls Try.prog 14 #[.slice A l.length ca] w (Ret w (.int .i64 (newP l : Nat))) := by
  have HL := Lib.hid hL
  clear hL
  go_enter Try.func14, Try.ntmps14
  go_wp2_with (fail)
  go_loopw [3, 5, 8] (fun t3 _ t8 W => ∃ k : Nat, k ≤ l.length ∧ t8 = .int .i64 (k : Nat) ∧ t3 = .int .i64 (newP (l.take k) : Nat) ∧ Hid (Below w.heap.size w W)) (fun _ _ t8 _ => l.length - (intOf t8).toNat)
  case atStart => exact ⟨0, by omega, rfl, rfl, Lib.hid (Below.refl _ _)⟩
  case round =>
    obtain ⟨k, hk, rfl, rfl, HB⟩ := hrel
    have k1 : (0 : Int) ≤ (k : Int) := by omega
    by_cases hlt : k < l.length
    · obtain ⟨ad, rfl, hc0, hcs⟩ := (HL.out.below HB.out).at_ (k := k) (by simpa using hlt)
      have hrow : (l.map stpV)[k]'(by simpa using hlt) = stpV l[k] := by simp
      rw [hrow] at hc0 hcs
      have k2 : (k : Int) < (l.length : Int) := by omega
      have hnt := newP_take hlt
      have hle := newP_take_le l (k + 1)
      generalize l[k] = x at *
      obtain ⟨f, c, t⟩ := x
      have a0 := hc0 _ rfl
      have a1 := hcs 0 _ rfl
      have a2 := hcs 1 _ rfl
      simp only at hnt
      rw [hnt] at hle
      have HNT := Lib.hid hnt
      clear hc0 hcs hrow hnt
      generalize newP (l.take k) = s0 at *
      go_wp2_with (fail)
      go_roundw
      case rel => exact ⟨k + 1, by omega, by go_num, by rw [HNT.out]; go_num, Lib.hid (HB.out.alloc HB.out.size _)⟩
      case measure => simp [intOf]; omega
    · obtain rfl : k = l.length := by omega
      go_wp2_with (fail)
      go_ret
      exact ⟨by simp, HB.out⟩

set_option maxRecDepth 100000 in
set_option maxHeartbeats 2000000 in
theorem Same_same (A B : Option Addr) (ca cb : Nat) (l : List Stp) (w : World) (hL : IsRows w 3 A (l.map stpV)) (hM : IsRows w 3 B (l.map stpV)) (hl : l.length ≤ 4294967296) :
    Calls Try.prog 11 #[.slice A l.length ca, .slice B l.length cb] w (Ret w (.bool true)) := by
  have HL := Lib.hid hL
  have HM := Lib.hid hM
  clear hL hM
  go_enter Try.func11, Try.ntmps11
  go_wp2_with (fail)
  go_loopw [5] (fun t5 W => ∃ k : Nat, k ≤ l.length ∧ t5 = .int .i64 (k : Nat) ∧ Hid (Below w.heap.size w W)) (fun t5 _ => l.length - (intOf t5).toNat)
  case atStart => exact ⟨0, by omega, rfl, Lib.hid (Below.refl _ _)⟩
  case round =>
    obtain ⟨k, hk, rfl, HB⟩ := hrel
    have k1 : (0 : Int) ≤ (k : Int) := by omega
    by_cases hlt : k < l.length
    · obtain ⟨ad, rfl, hc0, hcs⟩ := (HL.out.below HB.out).at_ (k := k) (by simpa using hlt)
      obtain ⟨bd, rfl, hd0, hds⟩ := (HM.out.below HB.out).at_ (k := k) (by simpa using hlt)
      have hrow : (l.map stpV)[k]'(by simpa using hlt) = stpV l[k] := by simp
      rw [hrow] at hc0 hcs hd0 hds
      have k2 : (k : Int) < (l.length : Int) := by omega
      generalize l[k] = x at *
      obtain ⟨f, c, t⟩ := x
      have a0 := hc0 _ rfl
      have a1 := hcs 0 _ rfl
      have a2 := hcs 1 _ rfl
      have b0 := hd0 _ rfl
      have b1 := hds 0 _ rfl
      have b2 := hds 1 _ rfl
      clear hc0 hcs hrow hd0 hds
      go_wp2_with (fail)
      go_quiet (fail)
      go_wp2_with (fail)
      all_goals first | exact ⟨⟨k + 1, by omega, by go_num, Lib.hid (below_drewN HB.out _)⟩, by simp [intOf]; omega⟩ | (go_roundw <;> first | exact ⟨k + 1, by omega, by go_num, Lib.hid (below_drewN HB.out _)⟩ | (simp [intOf]; omega))
    · obtain rfl : k = l.length := by omega
      go_wp2_with (fail)
      go_ret
      exact ⟨rfl, HB.out⟩
end Go.Proofs.Ytgohhhfnffhgmaa
