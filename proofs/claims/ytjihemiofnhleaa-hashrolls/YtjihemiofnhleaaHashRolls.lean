/- hawserlaw04.HashRolls: rolled along a text, the weak sum is that of each window. No condition. -/
import Derived.Test.YtjihemiofnhleaaHashLaw
import Derived.Test.YtjihemiofnhleaaHashWeak
import Derived.Test.YtjihemiofnhleaaOpen
namespace Go.Proofs.Ytjihemiofnhleaa
open Go.RowKit Plain

theorem window_step (s : List UInt8) (i m : Nat) (hm : 1 ≤ m) (hmi : m ≤ i) (hi : i < s.length) :
    roll (weak ((s.drop (i - m)).take m)) (m : Int) (s[i - m]'(by omega)).toNat (s[i]'hi).toNat = weak ((s.drop (i + 1 - m)).take m) := by
  obtain ⟨p, rfl⟩ : ∃ p, m = p + 1 := ⟨m - 1, by omega⟩
  have e1 : s.drop (i - (p + 1)) = s[i - (p + 1)]'(by omega) :: s.drop (i + 1 - (p + 1)) := by
    rw [List.drop_eq_getElem_cons (by omega)]
    congr 2; omega
  have h2 : (s.drop (i + 1 - (p + 1))).take (p + 1) = (s.drop (i + 1 - (p + 1))).take p ++ [s[i]'hi] := by
    rw [List.take_succ_eq_append_getElem (by simp; omega)]
    congr 2
    simp only [List.getElem_drop]
    congr 1; omega
  have hl : ((s.drop (i + 1 - (p + 1))).take p).length = p := by simp; omega
  rw [e1, List.take_succ_cons, h2, ← roll_weak, hl]

set_option maxHeartbeats 1000000 in
theorem HashRolls_small (s : List UInt8) (n : Int) (w : World) (hs : s.length ≤ 9223372036854775807) (hn : -9223372036854775808 ≤ n) (hn2 : n ≤ 9223372036854775807) (h : n < 1 ∨ 300 < n ∨ (s.length : Int) < n) :
    Calls Try.prog 6 #[.string ⟨s.toArray⟩, .int .i64 n] w (Ret w (.bool true)) := by
  have close : ∀ (b1 b2 b3 : Bool), decide (n < 1) = b1 → decide (300 < n) = b2 → decide ((s.length : Int) < n) = b3 → (b1 || b2 || b3) = true → Calls Try.prog 6 #[.string ⟨s.toArray⟩, .int .i64 n] w (Ret w (.bool true)) := by
    intro b1 b2 b3 h1 h2 h3 hb
    cases b1 <;> cases b2 <;> cases b3 <;> first | (simp at hb; done) | (
      clear hb h
      go_enter Try.func6, Try.ntmps6
      go_wp2_with (fail)
      refine (Ret.quiet (Below.refl _ _) (awake_any _)).mono ?_
      rintro e w1 ⟨rfl, hb1⟩
      go_wp2_with (fail)
      go_ret
      exact ⟨rfl, hb1⟩)
  refine close _ _ _ rfl rfl rfl ?_
  simp
  omega

set_option maxHeartbeats 2000000 in
theorem HashRolls_main (s : List UInt8) (m : Nat) (w : World) (hs : s.length ≤ 9223372036854775807) (h1 : 1 ≤ m) (h300 : m ≤ 300) (hm : m ≤ s.length) :
    Calls Try.prog 6 #[.string ⟨s.toArray⟩, .int .i64 m] w (Ret w (.bool true)) := by
  have b1 : decide ((m : Int) < 1) = false := by simp; omega
  have b2 : decide ((300 : Int) < m) = false := by simp; omega
  have b3 : decide ((s.length : Int) < m) = false := by simp; omega
  go_enter Try.func6, Try.ntmps6
  go_wp2_with (fail)
  refine (Ret.quiet (Below.refl _ _) (awake_any _)).mono ?_
  rintro e w1 ⟨rfl, hb1⟩
  go_wp2_with (fail)
  refine (Ret.quiet (hb1) (Weak_any (s.take m) _ (by simp; omega))).mono ?_
  rintro e w2 ⟨rfl, hb2⟩
  go_wp2_with (fail)
  go_loopw [5, 6] (fun t5 t6 W => ∃ i : Nat, m ≤ i ∧ i ≤ s.length ∧ i ≤ m + 200 ∧ t6 = .int .i64 i ∧ t5 = .int .u32 (weak ((s.drop (i - m)).take m) : Nat) ∧ Hid (Below w.heap.size w W)) (fun _ t6 _ => s.length - (intOf t6).toNat)
  case atStart => exact ⟨m, by omega, hm, by omega, rfl, by simp, Lib.hid hb2⟩
  case round =>
    clear hb1 hb2
    obtain ⟨i, hi1, hi2, hi3, rfl, rfl, HB⟩ := hrel
    have hbw := weak_lt ((s.drop (i - m)).take m)
    by_cases hlt : i < s.length ∧ i < m + 200
    · obtain ⟨hl1, hl2⟩ := hlt
      have hst := window_step s i m h1 hi1 hl1
      have HST := Lib.hid hst
      clear hst
      have t1 : decide ((i : Int) < s.length) = true := by simp; omega
      have t2 : decide ((i : Int) < (m : Int) + 200) = true := by simp; omega
      go_wp2_with (fail)
      have x1 : IntKind.i64.wrap ((i : Int) - m) = (i : Int) - m := IntWalk.i64_in _ (by omega)
      have x2 : ((i : Int) - m).toNat = i - m := by omega
      have x3 : 0 ≤ (i : Int) - m := by omega
      have x4 : (i : Int) - m < s.length := by omega
      have x5 : (0 : Int) ≤ i := by omega
      have x6 : (i : Int) < s.length := by omega
      generalize hci : s[i - m]'(by omega) = c at *
      generalize hdi : s[i] = d at *
      have hc := c.toNat_lt
      have hd := d.toNat_lt
      generalize hu : weak ((s.drop (i - m)).take m) = u at *
      have HU := Lib.hid hu
      clear hu
      refine wp_region_below (by kernel_rfl) (by kernel_rfl) ?_
      repeat (go_big_quiet_step ((intro hW; go_at_call 14; exact Ret.quiet hW (Roll_any u m c.toNat d.toNat _ hbw hc hd (by omega) (by omega)))))
      refine wpQuiet_nil ?_
      intro W3 hW3
      have hW := Weak_any (List.take (i - (i - m)) (List.drop (i - m + 1) s)) W3 (by simp; omega)
      rw [show weak (List.take (i - (i - m)) (List.drop (i - m + 1) s)) = roll u m c.toNat d.toNat by
        rw [HST.out, show i - (i - m) = m by omega, show i - m + 1 = i + 1 - m by omega]] at hW
      have hr := roll_lt u m c.toNat d.toNat
      generalize roll u m c.toNat d.toNat = v at *
      go_wp2_with (fail)
      refine (Ret.quiet (HB.out.trans (hW3.mono HB.out.size)) hW).mono ?_
      rintro e w4 ⟨rfl, hb4⟩
      go_wp2_with (fail)
      go_roundw
      case rel => exact ⟨i + 1, by omega, by omega, by omega, by go_num, by rw [HST.out], Lib.hid hb4⟩
      case measure => simp [intOf]; omega
    · have hout : ∀ (b1 b2 : Bool), decide ((i : Int) < s.length) = b1 → decide ((i : Int) < (m : Int) + 200) = b2 → (b1 && b2) = false → True := fun _ _ _ _ _ => trivial
      by_cases hl : i < s.length
      · have t1 : decide ((i : Int) < s.length) = true := by simp; omega
        have t2 : decide ((i : Int) < (m : Int) + 200) = false := by simp; omega
        clear hout
        go_wp2_with (fail)
        go_ret
        exact ⟨rfl, HB.out⟩
      · have t1 : decide ((i : Int) < s.length) = false := by simp; omega
        clear hout
        go_wp2_with (fail)
        go_ret
        exact ⟨rfl, HB.out⟩

open Go.ChangeShapes Go.WideShapes Go.ChangeAt in
/-- What the walk gives, for every argument. -/
theorem HashRolls_contract (H : Type) (enc : TypeId × Value → H) (W : World) (base : Nat) (args : Array Value) (ds gs : List (DataW H)) (before : List MemPlace)
    (hval : ∀ (j : Nat) t v, Try.f6.params[j]? = some t → args[j]? = some v → Value.okWide Try.prog W .any base t v)
    (hW : DataW.Whole enc Try.prog Try.f6.params.toList Rows.hashRollsSpec.vars false W args.toList ds gs before) :
    Calls Try.prog 6 args W fun e W' => ∃ v, e = .returned v ∧ Rows.hashRollsSpec.post enc Try.prog Try.f6 false true false false W args v W' := by
  have hW' := hW
  obtain ⟨p, q, hA0, hV, rfl, hfz, hnd⟩ := hW
  have hA : DataW.TrodAll enc Try.prog W 0 (fun _ => true) true Try.f6.params.toList args.toList ds p := hA0
  rw [Try.params6] at hA hval
  obtain ⟨v0, vs0, d0, ds0, p0, q0, hargs, rfl, rfl, h0, r0⟩ := trodAll_cons hA
  obtain ⟨v1, vs1, d1, ds1, p1, q1, rfl, rfl, rfl, h1, r1⟩ := trodAll_cons r0
  obtain ⟨rfl, rfl, rfl⟩ := trodAll_nil r1
  obtain rfl : args = #[v0, v1] := by cases args; simp_all
  obtain ⟨rfl, rfl⟩ := trodVars_none hV
  obtain ⟨x0, rfl, rfl, rfl, k0⟩ := ChangeMaps.open_string Try.underlying9 (hval 0 9 v0 rfl rfl) h0
  have k0 : x0.data.toList.length ≤ 9223372036854775807 := by unfold maxLen at k0; simpa using k0
  obtain ⟨x1, rfl, rfl, rfl, k1⟩ := open_int Try.underlying3 (hval 1 3 v1 rfl rfl) h1
  have k1 := bounds_i64 k1
  clear hA0
  refine (show Calls Try.prog 6 #[.string ⟨x0.data.toList.toArray⟩, .int .i64 x1] W (Ret W (.bool true)) from ?_).mono ?_
  · by_cases h : x1 < 1 ∨ 300 < x1 ∨ (x0.data.toList.length : Int) < x1
    · exact HashRolls_small _ _ _ k0 (by omega) (by omega) h
    · obtain ⟨m, rfl⟩ := Int.eq_ofNat_of_zero_le (show 0 ≤ x1 by omega)
      exact HashRolls_main _ m _ k0 (by omega) (by omega) (by omega)
  exact fun e W' ⟨he, hb⟩ => ⟨_, he, law_post rfl hW' rfl (by kernel_rfl) Try.underlying4 (by kernel_rfl) laidOut hb⟩

open Go.ChangeShapes Go.WideShapes Go.ChangeAt in
set_option maxRecDepth 100000 in
theorem HashRolls_lifted (os : Os) (started : os.Started) (H : Type) (enc : TypeId × Value → H) :
    ReturnsInHanded {} Try.checked os 6 .any (Rows.hashRollsSpec.pre6 enc Try.prog Try.f6 Rows.hashRollsRow.domain false) (Rows.hashRollsSpec.post enc Try.prog Try.f6 false true false false) := by
  refine returnsInHanded_of_change (C := Try.checked) own started (by kernel_rfl) Try.func6
    (ChangeSpec.witness6 (enc := enc) (C := Try.checked) false ⟨#[], #[.string ⟨#[]⟩, .int .i64 0], []⟩ 8 (by kernel_rfl) (by kernel_rfl) (by kernel_rfl) (by kernel_rfl)) ?_
  intro W base args ds gs before hval hW _ _
  exact HashRolls_contract H enc W base args ds gs before hval hW

theorem HashRolls_holds : Rows.HashRollsSaid :=
  OpenClaim.holds_of_wide 6 Try.f6 rfl rfl rfl rfl rfl rfl rfl ⟨rfl, rfl, rfl, rfl, rfl⟩ rfl rfl rfl rfl rfl (by kernel_rfl) Try.func6 (by kernel_rfl)
    (of_decide_eq_true (by kernel_rfl)) (by unfold Func.isWrapper; first | (rw [if_pos (by decide +kernel)]; kernel_rfl) | (rw [if_neg (by decide +kernel)]; exact ⟨rfl, rfl⟩))
    (fun os started H enc _ => HashRolls_lifted os started H enc)
end Go.Proofs.Ytjihemiofnhleaa
