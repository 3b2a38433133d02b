/- hawserlaw14.DeltaSame: of a text itself nothing is new; of what stands behind whole blocks no more than that. No condition. -/
import Derived.Test.YtgohhhfnffhgmaaDelta13
import Derived.Test.YtgohhhfnffhgmaaOpen
namespace Go.Proofs.Ytgohhhfnffhgmaa
open Go.RowKit Go.ChangeShapes Go.WideShapes Go.ChangeAt Plain

set_option maxRecDepth 100000 in
set_option maxHeartbeats 2000000 in
theorem DeltaSame_any (base more : List UInt8) (sz : Int) (w : World) (hb : base.length ≤ 9223372036854775807) (hm : more.length ≤ 9223372036854775807) :
    Calls Try.prog 5 #[.string ⟨base.toArray⟩, .string ⟨more.toArray⟩, .int .i64 sz] w (Ret w (.bool true)) := by
  have HAW := Lib.hid (awake_any w)
  by_cases q1 : sz < 1
  · have d1 : decide (sz < 1) = true := decide_eq_true q1
    go_enter Try.func5, Try.ntmps5
    go_wp2_with (fail)
    refine (Ret.quiet (Below.refl _ _) (HAW.out)).mono ?_
    rintro e w1 ⟨rfl, hb1⟩
    go_wp2_with (fail)
    go_ret
    exact ⟨rfl, hb1⟩
  have d1 : decide (sz < 1) = false := decide_eq_false q1
  by_cases q2 : 65536 < sz
  · have d2 : decide (65536 < sz) = true := decide_eq_true q2
    go_enter Try.func5, Try.ntmps5
    go_wp2_with (fail)
    refine (Ret.quiet (Below.refl _ _) (HAW.out)).mono ?_
    rintro e w1 ⟨rfl, hb1⟩
    go_wp2_with (fail)
    go_ret
    exact ⟨rfl, hb1⟩
  have d2 : decide (65536 < sz) = false := decide_eq_false q2
  by_cases q3 : 2000 < base.length
  · have d3 : decide ((2000 : Int) < (base.length : Int)) = true := decide_eq_true (by omega)
    go_enter Try.func5, Try.ntmps5
    go_wp2_with (fail)
    refine (Ret.quiet (Below.refl _ _) (HAW.out)).mono ?_
    rintro e w1 ⟨rfl, hb1⟩
    go_wp2_with (fail)
    go_ret
    exact ⟨rfl, hb1⟩
  have d3 : decide ((2000 : Int) < (base.length : Int)) = false := decide_eq_false (by omega)
  by_cases q4 : 2000 < more.length
  · have d4 : decide ((2000 : Int) < (more.length : Int)) = true := decide_eq_true (by omega)
    go_enter Try.func5, Try.ntmps5
    go_wp2_with (fail)
    refine (Ret.quiet (Below.refl _ _) (HAW.out)).mono ?_
    rintro e w1 ⟨rfl, hb1⟩
    go_wp2_with (fail)
    go_ret
    exact ⟨rfl, hb1⟩
  have d4 : decide ((2000 : Int) < (more.length : Int)) = false := decide_eq_false (by omega)
  obtain ⟨size, rfl⟩ := Int.eq_ofNat_of_zero_le (show 0 ≤ sz by omega)
  have hs : 1 ≤ size := by omega
  have hs2 : size ≤ 65536 := by omega
  have hsl := sign_len (base := base) hs
  have htw := told_w (base := base) (size := size)
  have hself := make_self base hs
  have hmore := make_more base more hs
  have hsg := fun W => Sign_any base size W hs hs2 (by omega)
  have hn1 := make_new_le (data := base) (l := signP base size) hs
  have hn2 := make_new_le (data := base ++ more) (l := signP base size) hs
  have HMK := Lib.hid (fun v data W h hd => Make_any w.heap.size v (signP base size) data size W h hs hs2 hd (by omega) htw)
  have HK := Lib.hid (fun data => make_len (data := data) (l := signP base size) (size := size) hs)
  have HSG := Lib.hid hsg
  have HSELF := Lib.hid hself
  have HMORE := Lib.hid hmore
  have HN := Lib.hid (And.intro hn1 hn2)
  clear hsg hself hmore hn1 hn2 htw
  generalize hSS : signP base size = S at *
  have hkb := HK.out base
  have hkm := HK.out (base ++ more)
  simp only [List.length_append] at hkm
  go_enter Try.func5, Try.ntmps5
  go_wp2_with (fail)
  refine (Ret.quiet (Below.refl _ _) (HAW.out)).mono ?_
  rintro e w1 ⟨rfl, hb1⟩
  go_wp2_with (fail)
  refine (HSG.out w1).mono ?_
  rintro e w2 ⟨v2, rfl, hv2, hb2⟩
  have hL2 : BlksAt w2 w1.heap.size v2 S := hv2
  have HL2 := Lib.hid (show BlksAt w2 w.heap.size v2 S from own_base hL2 hb1.size)
  have HB2 := Lib.hid (hb1.trans (hb2.mono hb1.size))
  obtain ⟨A2, c2, hv⟩ := hL2.slice
  subst hv
  clear hv2 hL2 hb1 hb2 HSG
  go_wp2_with (fail)
  refine (HMK.out _ base w2 HL2.out (by omega)).mono ?_
  rintro e w3 ⟨v3, rfl, hv3, hb3⟩
  obtain ⟨A3, c3, hv⟩ := hv3.slice
  subst hv
  have HR3 := Lib.hid (rows_of_own hv3)
  have HB3 := Lib.hid (HB2.out.trans (hb3.mono HB2.out.size))
  have HL3 := Lib.hid (HL2.out.below hb3)
  clear hv3 hb3 HB2 HL2
  go_wp2_with (fail)
  refine (New_any A3 c3 _ w3 HR3.out (by omega) (by have := HN.out.1; omega)).mono ?_
  rintro e w4 ⟨rfl, hb4⟩
  have HB4 := Lib.hid (HB3.out.trans (hb4.mono HB3.out.size))
  have HL4 := Lib.hid (HL3.out.below hb4)
  rw [HSELF.out]
  clear hb4 HB3 HL3 HR3
  have hrem : (base.length : Int).tmod (size : Int) = ((base.length % size : Nat) : Int) := by
    rw [Int.tmod_eq_emod_of_nonneg (by omega)]; push_cast; rfl
  have hrem2 : (base.length : Int) % (size : Int) = ((base.length % size : Nat) : Int) := by push_cast; rfl
  by_cases qr : base.length % size = 0
  · have HM := Lib.hid (HMORE.out qr)
    have r0 : (((base.length % size : Nat) : Int) == 0) = true := by rw [qr]; rfl
    rw [qr] at hrem hrem2
    clear r0
    go_wp2_with (fail)
    refine (HMK.out _ (base ++ more) w4 HL4.out (by simp; omega)).mono ?_
    rintro e w5 ⟨v5, rfl, hv5, hb5⟩
    obtain ⟨A5, c5, hv⟩ := hv5.slice
    subst hv
    have HR5 := Lib.hid (rows_of_own hv5)
    have HB5 := Lib.hid (HB4.out.trans (hb5.mono HB4.out.size))
    clear hv5 hb5 HB4 HL4
    go_wp2_with (fail)
    refine (New_any A5 c5 _ w5 HR5.out (by omega) (by have := HN.out.2; simp at this; omega)).mono ?_
    rintro e w6 ⟨rfl, hb6⟩
    have hle := HM.out
    generalize newP (makeP (base ++ more) S size) = z at *
    have dz : decide ((z : Int) ≤ (more.length : Int)) = true := decide_eq_true (by omega)
    go_wp2_with (fail)
    go_ret
    exact ⟨rfl, HB5.out.trans (hb6.mono HB5.out.size)⟩
  · generalize hz : base.length % size = z at *
    have r0 : ((z : Int) == 0) = false := by rw [beq_eq_false_iff_ne]; omega
    go_wp2_with (fail)
    go_ret
    exact ⟨rfl, HB4.out⟩

set_option maxRecDepth 100000 in
open Go.ChangeShapes Go.WideShapes Go.ChangeAt in
/-- What the walk gives, for every argument. -/
theorem DeltaSame_contract (H : Type) (enc : TypeId × Value → H) (W : World) (base : Nat) (args : Array Value) (ds gs : List (DataW H)) (before : List MemPlace)
    (hval : ∀ (j : Nat) t v, Try.f5.params[j]? = some t → args[j]? = some v → Value.okWide Try.prog W .any base t v)
    (hW : DataW.Whole enc Try.prog Try.f5.params.toList Rows.deltaSameSpec.vars false W args.toList ds gs before) :
    Calls Try.prog 5 args W fun e W' => ∃ v, e = .returned v ∧ Rows.deltaSameSpec.post enc Try.prog Try.f5 false true false false W args v W' := by
  have hW' := hW
  obtain ⟨p, q, hA0, hV, rfl, hfz, hnd⟩ := hW
  have hA : DataW.TrodAll enc Try.prog W 0 (fun _ => true) true Try.f5.params.toList args.toList ds p := hA0
  rw [Try.params5] at hA hval
  obtain ⟨v0, vs0, d0, ds0, p0, q0, hargs, rfl, rfl, h0, r0⟩ := trodAll_cons hA
  obtain ⟨v1, vs1, d1, ds1, p1, q1, rfl, rfl, rfl, h1, r1⟩ := trodAll_cons r0
  obtain ⟨v2, vs2, d2, ds2, p2, q2, rfl, rfl, rfl, h2, r2⟩ := trodAll_cons r1
  obtain ⟨rfl, rfl, rfl⟩ := trodAll_nil r2
  obtain rfl : args = #[v0, v1, v2] := by cases args; simp_all
  obtain ⟨rfl, rfl⟩ := trodVars_none hV
  obtain ⟨x0, rfl, rfl, rfl, k0⟩ := ChangeMaps.open_string Try.underlying9 (hval 0 9 v0 rfl rfl) h0
  have k0 : x0.data.toList.length ≤ 9223372036854775807 := by unfold maxLen at k0; simpa using k0
  obtain ⟨x1, rfl, rfl, rfl, k1⟩ := ChangeMaps.open_string Try.underlying9 (hval 1 9 v1 rfl rfl) h1
  have k1 : x1.data.toList.length ≤ 9223372036854775807 := by unfold maxLen at k1; simpa using k1
  obtain ⟨x2, rfl, rfl, rfl, k2⟩ := open_int Try.underlying3 (hval 2 3 v2 rfl rfl) h2
  have k2 := bounds_i64 k2
  clear hA0
  refine (DeltaSame_any x0.data.toList x1.data.toList x2 W k0 k1).mono ?_
  exact fun e W' ⟨he, hb⟩ => ⟨_, he, law_post rfl hW' rfl (by kernel_rfl) Try.underlying4 (by kernel_rfl) laidOut hb⟩

open Go.ChangeShapes Go.WideShapes Go.ChangeAt in
set_option maxRecDepth 100000 in
theorem DeltaSame_lifted (os : Os) (started : os.Started) (H : Type) (enc : TypeId × Value → H) :
    ReturnsInHanded {} Try.checked os 5 .any (Rows.deltaSameSpec.pre6 enc Try.prog Try.f5 Rows.deltaSameRow.domain false) (Rows.deltaSameSpec.post enc Try.prog Try.f5 false true false false) := by
  refine returnsInHanded_of_change (C := Try.checked) own started (by kernel_rfl) Try.func5
    (ChangeSpec.witness6 (enc := enc) (C := Try.checked) false ⟨#[], #[.string ⟨#[]⟩, .string ⟨#[]⟩, .int .i64 0], []⟩ 8 (by kernel_rfl) (by kernel_rfl) (by kernel_rfl) (by kernel_rfl)) ?_
  intro W base args ds gs before hval hW _ _
  exact DeltaSame_contract H enc W base args ds gs before hval hW

theorem DeltaSame_holds : Rows.DeltaSameSaid :=
  OpenClaim.holds_of_wide 5 Try.f5 rfl rfl rfl rfl rfl rfl rfl ⟨rfl, rfl, rfl, rfl, rfl⟩ rfl rfl rfl rfl rfl (by kernel_rfl) Try.func5 (by kernel_rfl)
    (of_decide_eq_true (by kernel_rfl)) (by unfold Func.isWrapper; first | (rw [if_pos (by decide +kernel)]; kernel_rfl) | (rw [if_neg (by decide +kernel)]; exact ⟨rfl, rfl⟩))
    (fun os started H enc _ => DeltaSame_lifted os started H enc)
end Go.Proofs.Ytgohhhfnffhgmaa
