/- hawserlaw04.HashSums: the strong fingerprint is the document's. No condition. -/
import Derived.Test.YtjihemiofnhleaaHashLaw
import Derived.Test.YtjihemiofnhleaaBigWalk6
import Derived.Test.YtjihemiofnhleaaOpen
namespace Go.Proofs.Ytjihemiofnhleaa
open Go.RowKit Plain

set_option maxHeartbeats 1000000 in
theorem HashSums_any (s : List UInt8) (w : World) (hs : s.length ≤ 9223372036854775807) :
    Calls Try.prog 3 #[.string ⟨s.toArray⟩] w (Ret w (.bool true)) := by
  by_cases hbig : 400 < s.length
  · have hB : decide ((400 : Int) < s.length) = true := by simp; omega
    go_enter Try.func3, Try.ntmps3
    go_wp2_with (fail)
    refine (Ret.quiet (Below.refl _ _) (awake_any _)).mono ?_
    rintro e w1 ⟨rfl, hb1⟩
    go_wp2_with (fail)
    go_ret
    exact ⟨rfl, hb1⟩
  · have hB : decide ((400 : Int) < s.length) = false := by simp; omega
    go_enter Try.func3, Try.ntmps3
    go_wp2_with (fail)
    refine (Ret.quiet (Below.refl _ _) (awake_any _)).mono ?_
    rintro e w1 ⟨rfl, hb1⟩
    go_wp2_with (fail)
    refine (Ret.quiet (hb1) (Sum_any s _ (by omega))).mono ?_
    rintro e w2 ⟨rfl, hb2⟩
    go_wp2_with (fail)
    refine (Ret.quiet (hb2) (RefSum_any s _ (by omega))).mono ?_
    rintro e w3 ⟨rfl, hb3⟩
    go_wp2_with (fail)
    go_ret
    exact ⟨rfl, hb3⟩

open Go.ChangeShapes Go.WideShapes Go.ChangeAt in
/-- What the walk gives, for every argument. -/
theorem HashSums_contract (H : Type) (enc : TypeId × Value → H) (W : World) (base : Nat) (args : Array Value) (ds gs : List (DataW H)) (before : List MemPlace)
    (hval : ∀ (j : Nat) t v, Try.f3.params[j]? = some t → args[j]? = some v → Value.okWide Try.prog W .any base t v)
    (hW : DataW.Whole enc Try.prog Try.f3.params.toList Rows.hashSumsSpec.vars false W args.toList ds gs before) :
    Calls Try.prog 3 args W fun e W' => ∃ v, e = .returned v ∧ Rows.hashSumsSpec.post enc Try.prog Try.f3 false true false false W args v W' := by
  have hW' := hW
  obtain ⟨p, q, hA0, hV, rfl, hfz, hnd⟩ := hW
  have hA : DataW.TrodAll enc Try.prog W 0 (fun _ => true) true Try.f3.params.toList args.toList ds p := hA0
  rw [Try.params3] at hA hval
  obtain ⟨v0, vs0, d0, ds0, p0, q0, hargs, rfl, rfl, h0, r0⟩ := trodAll_cons hA
  obtain ⟨rfl, rfl, rfl⟩ := trodAll_nil r0
  obtain rfl : args = #[v0] := by cases args; simp_all
  obtain ⟨rfl, rfl⟩ := trodVars_none hV
  obtain ⟨x0, rfl, rfl, rfl, k0⟩ := ChangeMaps.open_string Try.underlying9 (hval 0 9 v0 rfl rfl) h0
  have k0 : x0.data.toList.length ≤ 9223372036854775807 := by unfold maxLen at k0; simpa using k0
  clear hA0
  refine (HashSums_any x0.data.toList W k0).mono ?_
  exact fun e W' ⟨he, hb⟩ => ⟨_, he, law_post rfl hW' rfl (by kernel_rfl) Try.underlying4 (by kernel_rfl) laidOut hb⟩

open Go.ChangeShapes Go.WideShapes Go.ChangeAt in
set_option maxRecDepth 100000 in
theorem HashSums_lifted (os : Os) (started : os.Started) (H : Type) (enc : TypeId × Value → H) :
    ReturnsInHanded {} Try.checked os 3 .any (Rows.hashSumsSpec.pre6 enc Try.prog Try.f3 Rows.hashSumsRow.domain false) (Rows.hashSumsSpec.post enc Try.prog Try.f3 false true false false) := by
  refine returnsInHanded_of_change (C := Try.checked) own started (by kernel_rfl) Try.func3
    (ChangeSpec.witness6 (enc := enc) (C := Try.checked) false ⟨#[], #[.string ⟨#[]⟩], []⟩ 8 (by kernel_rfl) (by kernel_rfl) (by kernel_rfl) (by kernel_rfl)) ?_
  intro W base args ds gs before hval hW _ _
  exact HashSums_contract H enc W base args ds gs before hval hW

theorem HashSums_holds : Rows.HashSumsSaid :=
  OpenClaim.holds_of_wide 3 Try.f3 rfl rfl rfl rfl rfl rfl rfl ⟨rfl, rfl, rfl, rfl, rfl⟩ rfl rfl rfl rfl rfl (by kernel_rfl) Try.func3 (by kernel_rfl)
    (of_decide_eq_true (by kernel_rfl)) (by unfold Func.isWrapper; first | (rw [if_pos (by decide +kernel)]; kernel_rfl) | (rw [if_neg (by decide +kernel)]; exact ⟨rfl, rfl⟩))
    (fun os started H enc _ => HashSums_lifted os started H enc)
end Go.Proofs.Ytjihemiofnhleaa
