/- hawserlaw02.GlobMatches: whether a pattern matches a path is the document's. The condition: the arguments' bulk is what a machine can hold (Upto). -/
import Derived.Test.YtgppfcaghjbjmaaDoorGlob8
import Derived.Test.YtgppfcaghjbjmaaDoorGlobR8
import Derived.Test.YtgppfcaghjbjmaaDoorTabs
import Derived.Test.YtgppfcaghjbjmaaDoorCard
import Derived.Test.YtgppfcaghjbjmaaDoorOpen
import Derived.Test.YtgppfcaghjbjmaaDoorClose
set_option linter.unusedVariables false
namespace Go.Proofs.YtgppfcaghjbjmaaDoor
open Go.RowKit Plain

set_option maxHeartbeats 2000000 in
set_option maxRecDepth 100000 in
theorem GlobMatches_any (p s : List UInt8) (m : Int) (w : World) (hL : Laid w m) (hp : p.length ≤ 9223372036854775807) (hs : s.length ≤ 8796093022200) :
    Calls Tryd.prog 3 #[.string ⟨p.toArray⟩, .string ⟨s.toArray⟩] w (Ret w (.bool true)) := by
  have HAW := Lib.hid (awake_any m w hL)
  have HM := Lib.hid (fun W (h : Below w.heap.size w W) => Match_any p s m W (hL.below h) hp (by omega))
  have HR := Lib.hid (fun W => Match_ref p s W hs)
  generalize matchG p s = b at *
  clear hL hs
  go_enter Tryd.func3, Tryd.ntmps3
  go_wp2_with (fail)
  refine HAW.out.mono ?_
  rintro e w1 ⟨rfl, hw1⟩
  have HB1 := Lib.hid hw1
  clear hw1
  go_wp2_with (fail)
  go_loopw [5, 6] (fun t5 t6 W => ∃ (i st : Nat), i ≤ p.length ∧ st ≤ i ∧ t5 = .int .i64 st ∧ t6 = .int .i64 i ∧ W = w1) (fun _ t6 _ => p.length - (intOf t6).toNat)
  case atStart => exact ⟨0, 0, by omega, by omega, rfl, rfl, rfl⟩
  case round =>
    obtain ⟨i, st, hi, hst, rfl, rfl, rfl⟩ := hrel
    have i0 : (0 : Int) ≤ i := by omega
    by_cases hlt : i < p.length
    · have i1 : (i : Int) < p.length := by omega
      have e1 : IntKind.i64.wrap ((i : Int) + 1) = (i : Int) + 1 := IntWalk.i64_in _ (by omega)
      have e2 : IntKind.i64.wrap ((st : Int) + 1) = (st : Int) + 1 := IntWalk.i64_in _ (by omega)
      by_cases h42 : p[i] = 42
      · go_wp2_with (fail)
        go_roundw
        case rel => exact ⟨i + 1, st + 1, by omega, by omega, by go_num, by go_num, by first | trivial | rfl⟩
        case measure => simp [intOf]; omega
      · generalize hc : p[i] = c at *
        have hq := u8_ne (n := 42) (by omega) h42
        clear h42
        go_wp2_with (fail)
        go_roundw
        case rel => exact ⟨i + 1, st, by omega, by omega, by go_num, by go_num, by first | trivial | rfl⟩
        case measure => simp [intOf]; omega
    · have i1 : decide ((i : Int) < (p.length : Int)) = false := by rw [decide_eq_false_iff_not]; omega
      cases h3 : decide ((3 : Int) < (st : Int)) <;> cases h20 : decide ((20 : Int) < (p.length : Int)) <;> cases h6 : decide ((6 : Int) < (st : Int))
      all_goals first
        | (go_wp2_with (fail)
           go_ret
           exact ⟨by simp, HB1.out⟩)
        | (go_wp2_with (fail)
           refine (HM.out _ HB1.out).mono ?_
           rintro e w2 ⟨rfl, hw2⟩
           have hB2 := HB1.out.trans (hw2.mono HB1.out.size)
           clear hw2
           go_wp2_with (fail)
           refine (HR.out _).mono ?_
           rintro e w3 ⟨rfl, hw3⟩
           go_wp2_with (fail)
           go_ret
           exact ⟨by simp, hB2.trans (hw3.mono hB2.size)⟩)

open Go.ChangeShapes Go.WideShapes Go.ChangeAt in
/-- What the walk gives, for every argument. -/
theorem GlobMatches_contract (H : Type) (enc : TypeId × Value → H) (W : World) (base : Nat) (args : Array Value) (ds gs : List (DataW H)) (before : List MemPlace)
    (hval : ∀ (j : Nat) t v, Tryd.f3.params[j]? = some t → args[j]? = some v → Value.okWide Tryd.prog W .any base t v)
    (hW : DataW.Whole enc Tryd.prog Tryd.f3.params.toList Rows.globMatchesSpec.vars false W args.toList ds gs before) (hL : laidMetH Tryd.prog Rows.globMatchesRow.laid W) (hS : W.ShapedOpen Tryd.prog) (hk : Rows.uptoSmall H (ds ++ gs) = true) :
    Calls Tryd.prog 3 args W fun e W' => ∃ v, e = .returned v ∧ Rows.globMatchesSpec.post enc Tryd.prog Tryd.f3 false true false false W args v W' := by
  have hW' := hW
  obtain ⟨p, q, hA0, hV, rfl, hfz, hnd⟩ := hW
  have hA : DataW.TrodAll enc Tryd.prog W 0 (fun _ => true) true Tryd.f3.params.toList args.toList ds p := hA0
  rw [Tryd.params3] at hA hval
  obtain ⟨v0, vs0, d0, ds0, p0, q0, hargs, rfl, rfl, h0, r0⟩ := trodAll_cons hA
  obtain ⟨v1, vs1, d1, ds1, p1, q1, rfl, rfl, rfl, h1, r1⟩ := trodAll_cons r0
  obtain ⟨rfl, rfl, rfl⟩ := trodAll_nil r1
  obtain rfl : args = #[v0, v1] := by cases args; simp_all
  obtain ⟨rfl, rfl⟩ := trodVars_none hV
  obtain ⟨x0, rfl, rfl, rfl, k0⟩ := ChangeMaps.open_string Tryd.underlying9 (hval 0 9 v0 rfl rfl) h0
  have k0 : x0.data.toList.length ≤ 9223372036854775807 := by unfold maxLen at k0; simpa using k0
  obtain ⟨x1, rfl, rfl, rfl, k1⟩ := ChangeMaps.open_string Tryd.underlying9 (hval 1 9 v1 rfl rfl) h1
  have k1 : x1.data.toList.length ≤ 9223372036854775807 := by unfold maxLen at k1; simpa using k1
  clear hA0
  have hbulk := bulk_bound hk
  simp only [List.cons_append, List.nil_append, List.append_nil, Rows.uptoBulkAll] at hbulk
  obtain ⟨m, hm⟩ := laid_of hL hS
  simp [Rows.uptoBulk] at hbulk
  have z0 : x0.data.toList.length = x0.size := by rw [Array.length_toList]; rfl
  have z1 : x1.data.toList.length = x1.size := by rw [Array.length_toList]; rfl
  refine (GlobMatches_any _ _ m W hm (by unfold maxLen at *; omega) (by show x1.data.toList.length ≤ _; rw [z1]; omega)).mono ?_
  exact fun e W' ⟨he, hb⟩ => ⟨_, he, law_post rfl hW' rfl (by kernel_rfl) Tryd.underlying4 (by kernel_rfl) laidOut hb⟩

open Go.ChangeShapes Go.WideShapes Go.ChangeAt in
theorem GlobMatches_met (os : Os) : laidMet Tryd.prog Rows.globMatchesUptoRow.laid ((laidWorld os).forCall (fun _ _ => 0) ⟨#[], #[.string ⟨#[]⟩, .string ⟨#[]⟩], []⟩).memory :=
  laidMet_of_run' 8 (by kernel_rfl) (by kernel_rfl)
open Go.ChangeShapes Go.WideShapes Go.ChangeAt in
theorem GlobMatches_reads (os : Os) {H : Type} (enc : TypeId × Value → H) : ∃ places, DataW.whole enc Tryd.prog ((laidWorld os).forCall (fun _ _ => 0) ⟨#[], #[.string ⟨#[]⟩, .string ⟨#[]⟩], []⟩).memory Tryd.f3.params.toList Rows.globMatchesSpec.vars false #[.string ⟨#[]⟩, .string ⟨#[]⟩].toList 8 = some ([.lit (.string []), .lit (.string [])], [], places) :=
  ⟨[], by kernel_rfl⟩

open Go.ChangeShapes Go.WideShapes Go.ChangeAt in
set_option maxRecDepth 100000 in
theorem GlobMatches_lifted (os : Os) (started : os.Started) (H : Type) (enc : TypeId × Value → H) (F : Stop.Interp) :
    ReturnsInHanded {} Tryd.checked os 3 .any ((Rows.OpenSpec.upto Rows.globMatchesSpec).preRow enc Tryd.prog Tryd.f3 Rows.globMatchesUptoRow.domain false Rows.globMatchesUptoRow.laid) (((Rows.OpenSpec.upto Rows.globMatchesSpec).at F).post enc Tryd.prog Tryd.f3 false true false false) := by
  obtain ⟨places, hx⟩ := GlobMatches_reads os enc
  refine returnsInHanded_of_row (C := Tryd.checked) (s := Rows.OpenSpec.upto Rows.globMatchesSpec) own started (by kernel_rfl) Tryd.func3
    (witness_row_at (enc := enc) (C := Tryd.checked) false (laidWorld os) #[.string ⟨#[]⟩, .string ⟨#[]⟩] rfl (by kernel_rfl) (by kernel_rfl) (by kernel_rfl)
      (OpenSpec.preRow_of_cond 8 hx (by kernel_rfl) (fun k hk => by cases hk; kernel_rfl) (by kernel_rfl) (GlobMatches_met os))) ?_
  intro W base args ds gs before hval hW _ hcond _ hL hS _
  exact GlobMatches_contract H enc W base args ds gs before hval hW hL hS (hcond _ rfl)

theorem GlobMatches_said : Rows.GlobMatchesUptoSaid :=
  OpenClaim.holds_of_cond 3 Tryd.f3 rfl rfl rfl rfl rfl rfl rfl ⟨rfl, rfl, rfl, rfl, rfl⟩ rfl rfl rfl rfl rfl (by kernel_rfl) Tryd.func3 (by kernel_rfl)
    (of_decide_eq_true (by kernel_rfl)) (by unfold Func.isWrapper; first | (rw [if_pos (by decide +kernel)]; kernel_rfl) | (rw [if_neg (by decide +kernel)]; exact ⟨rfl, rfl⟩))
    (fun os started H enc _ F => by rw [OpenClaim.pre_eq_preRow]; exact GlobMatches_lifted os started H enc F)

theorem GlobMatches_holds : Rows.GlobMatchesUptoCardSaid :=
  Claim7.holds_tied_plain_at .later [] _ _ _ _ GlobMatches_said (fun _ h => by cases h) (by kernel_rfl) (fun _ h => by cases h) globMatchesUpto_row_tie rfl ⟨rfl, rfl⟩ (by kernel_rfl) rfl
    (card_plain (f0 := 3) (fn0 := Tryd.f3) (by kernel_rfl) Tryd.func3 (by kernel_rfl) (by kernel_rfl)) (by kernel_rfl)
end Go.Proofs.YtgppfcaghjbjmaaDoor
