/- What is written, by the document: numbers (by recursion), texts, flags. -/
import Derived.Test.YtknoedlelmflhaaCode6
import Derived.Deep.RegionWith
namespace Go.Proofs.Ytknoedlelmflhaa
open Go.RowKit Plain

/-- 'string(b)', b of one byte. -/
theorem conv_one {P : Program} (src e dst : TypeId) (hs : P.underlying src = some (.slice e)) (he : P.underlying e = some (.int .u8)) (hd : P.underlying dst = some .string) (W : World) (b cap : Nat) (v : Int) (h : W.cell? ⟨b, 0, none⟩ = some (.int .u8 v)) :
    (convert src dst (.slice (some ⟨b, 0, none⟩) 1 cap)).run P W = .ok (.string ⟨#[UInt8.ofNat v.toNat]⟩) W :=
  run_convert_bytes_arg W src e hs he b 0 1 cap [v] rfl (fun i hi => by
    obtain rfl : i = 0 := by omega
    simpa using h) dst hd

theorem numF_more : ∀ (k n : Nat), n < 128 ^ (k + 1) → numF (k + 2) n = numF (k + 1) n
  | 0, n, h => by simp at h; simp [numF, h]
  | k + 1, n, h => by
    have h2 := numF_more k (n / 128) (by rw [Nat.pow_succ] at h; omega)
    rw [show numF (k + 1 + 2) n = if n < 128 then [UInt8.ofNat n] else UInt8.ofNat (n % 128 + 128) :: numF (k + 2) (n / 128) from rfl,
      show numF (k + 1 + 1) n = if n < 128 then [UInt8.ofNat n] else UInt8.ofNat (n % 128 + 128) :: numF (k + 1) (n / 128) from rfl, h2]
theorem numF_nine : ∀ (k n : Nat), k ≤ 8 → n < 128 ^ (k + 1) → numB n = numF (k + 1) n := by
  intro k n hk h
  unfold numB
  have key : ∀ j, k + j ≤ 8 → numF (k + j + 1) n = numF (k + 1) n := by
    intro j
    induction j with
    | zero => intro _; rfl
    | succ j ih =>
      intro hj
      rw [← ih (by omega)]
      exact numF_more (k + j) n (Nat.lt_of_lt_of_le h (Nat.pow_le_pow_right (by omega) (by omega)))
  have := key (8 - k) (by omega)
  rw [← this]; congr 1; omega
theorem numB_small {n : Nat} (h : n < 128) : numB n = [UInt8.ofNat n] := by unfold numB numF; rw [if_pos h]
theorem numB_big {n : Nat} (h : ¬ n < 128) (h2 : n < 9223372036854775808) : numB n = UInt8.ofNat (n % 128 + 128) :: numB (n / 128) := by
  rw [numF_nine 7 (n / 128) (by omega) (by omega)]
  unfold numB
  conv => lhs; unfold numF
  rw [if_neg h]

set_option maxRecDepth 100000 in
set_option maxHeartbeats 400000 in
theorem RefNum_any : ∀ (n : Nat) (w : World), n < 9223372036854775808 → Calls Try.prog 47 #[.int .i64 n] w (Ret w (.string ⟨(numB n).toArray⟩)) := by
  intro n
  induction n using Nat.strongRecOn with
  | _ n ih =>
    intro w hn
    have hk := fun w xs n cap hn m => run_convert_laid (P := Try.prog) w 101 5 9 Try.underlying101 Try.underlying5 Try.underlying9 xs n cap hn m
    by_cases h : n < 128
    · rw [numB_small h]
      have hc := hk w [n] 1 1 rfl (0, 0)
      simp only [List.map_cons, List.map_nil, Int.toNat_natCast] at hc
      clear hk ih
      go_enter Try.func47, Try.ntmps47
      go_wp2_with (fail)
      go_ret
      exact ⟨rfl, (Below.refl _ _).alloc (Nat.le_refl _) _⟩
    · rw [numB_big h hn]
      have hc := conv_one (P := Try.prog) 101 5 9 Try.underlying101 Try.underlying5 Try.underlying9
      have hI := fun w => ih (n / 128) (by omega) w (by omega)
      have h8 : (numB (n / 128)).length ≤ 9 := numF_length 9 _
      generalize hm : n / 128 = m at *
      have e4 : IntKind.i64.wrap ((n : Int) / 128) = (m : Int) := by rw [IntWalk.i64_in _ (by omega)]; omega
      obtain ⟨c, hcc⟩ : ∃ c, c = n % 128 + 128 := ⟨_, rfl⟩
      have e3 : IntKind.u8.wrap (IntKind.i64.wrap (128 + (n : Int).tmod 128)) = (c : Int) := by
        rw [Int.tmod_eq_emod_of_nonneg (by omega), IntWalk.i64_in _ (by omega), IntKind.wrap_u8]; omega
      rw [← hcc]
      have h0 : ¬ (n : Int) < 0 := by omega
      have h1 : ¬ (n : Int) < 128 := by omega
      have h9 : ¬ 9223372036854775807 < 1 + (numB m).length := by omega
      clear hk ih hm hcc h hn
      go_enter Try.func47, Try.ntmps47
      go_wp2_with (fail)
      go_region_with (go_at_call 47; refine (hI _).mono ?_; rintro e w1 ⟨rfl, hb1⟩; have hq := fun o => hb1.cell (p := ⟨w.heap.size, o, none⟩))
      all_goals go_wp2_with (fail)
      all_goals go_ret
      all_goals refine ⟨rfl, ?_⟩
      · exact ((Below.refl w.heap.size w).alloc (Nat.le_refl _) _).drew.trans (hb1.mono (by simp))
      · exact ((Below.refl w.heap.size w).alloc (Nat.le_refl _) _).drew.trans (hb1.mono (by simp))
      · exact ((Below.refl w.heap.size w).drew.trans hb1).alloc hb1.size _

set_option maxRecDepth 100000 in
set_option maxHeartbeats 400000 in
theorem RefNum_neg (n : Int) (w : World) (h : n < 0) : Calls Try.prog 47 #[.int .i64 n] w (Ret w (.string ⟨#[]⟩)) := by
  go_enter Try.func47, Try.ntmps47
  go_wp2_with (fail)
  go_ret
  exact ⟨rfl, Below.refl _ _⟩
set_option maxRecDepth 100000 in
set_option maxHeartbeats 400000 in
theorem RefText_any (s : List UInt8) (w : World) (hs : s.length ≤ 140737488355328) : Calls Try.prog 48 #[.string ⟨s.toArray⟩] w (Ret w (.string ⟨(textB s).toArray⟩)) := by
  have hl : (numB s.length).length ≤ 9 := numF_length 9 _
  go_enter Try.func48, Try.ntmps48
  go_wp2_with (fail)
  refine (Ret.quiet (Below.refl _ _) (RefNum_any s.length _ (by omega))).mono ?_
  rintro e w1 ⟨rfl, hb1⟩
  go_wp2_with (fail)
  go_ret
  exact ⟨rfl, hb1⟩
set_option maxRecDepth 100000 in
set_option maxHeartbeats 400000 in
theorem RefFlag_any (b : Bool) (w : World) : Calls Try.prog 49 #[.bool b] w (Ret w (.string ⟨(flagB b).toArray⟩)) := by
  cases b
  all_goals
    go_enter Try.func49, Try.ntmps49
    go_wp2_with (fail)
    go_ret
    exact ⟨rfl, Below.refl _ _⟩

end Go.Proofs.Ytknoedlelmflhaa
