/- hawserlaw02.GlobChecks: what is a pattern, and a path made a pattern, is the document's. The condition: the arguments' bulk is what a machine can hold (Upto). -/
import Derived.Test.YtgppfcaghjbjmaaGreatDoorBGlobLBase6
set_option linter.unusedSimpArgs false
set_option linter.unusedVariables false

section
set_option linter.unusedVariables false
namespace Go.Proofs.YtgppfcaghjbjmaaGreatDoor
open Go.RowKit Plain

set_option maxHeartbeats 2000000 in
set_option maxRecDepth 100000 in
theorem GlobChecks_any (s : List UInt8) (m : Int) (w : World) (hL : Laid w m) (hs : s.length ≤ 8796093022200) :
    Calls Tryz.prog 3 #[.string ⟨s.toArray⟩] w (Ret w (.bool true)) := by
  have HAW := Lib.hid (awake_any m w hL)
  have HC := Lib.hid (fun W (h : Below w.heap.size w W) => Check_all s W (hL.below h).1)
  have HR := Lib.hid (fun W => Check_ref s W)
  have HL := Lib.hid (fun W (h : Below w.heap.size w W) => Literal_any s W (hL.below h).1)
  have HLR := Lib.hid (fun W => (show litR s = litP s from rfl) ▸ Literal_ref s W hs)
  generalize (checkP 400 s).1 = c1 at *
  generalize (checkP 400 s).2 = c2 at *
  generalize litP s = l at *
  clear hL hs
  go_enter Tryz.func3, Tryz.ntmps3
  go_wp2_with (fail)
  refine HAW.out.mono ?_
  rintro e w1 ⟨rfl, hw1⟩
  have HB1 := Lib.hid hw1
  clear hw1
  go_wp2_with (fail)
  refine (HC.out _ HB1.out).mono ?_
  rintro e w2 ⟨rfl, hw2⟩
  have HB2 := Lib.hid (HB1.out.trans (hw2.mono HB1.out.size))
  clear hw2
  go_wp2_with (fail)
  refine (HR.out _).mono ?_
  rintro e w3 ⟨rfl, hw3⟩
  have HB3 := Lib.hid (HB2.out.trans (hw3.mono HB2.out.size))
  clear hw3
  go_wp2_with (fail)
  refine (HL.out _ HB3.out).mono ?_
  rintro e w4 ⟨rfl, hw4⟩
  have HB4 := Lib.hid (HB3.out.trans (hw4.mono HB3.out.size))
  clear hw4
  go_wp2_with (fail)
  refine (HLR.out _).mono ?_
  rintro e w5 ⟨rfl, hw5⟩
  have HB5 := Lib.hid (HB4.out.trans (hw5.mono HB4.out.size))
  clear hw5
  go_wp2_with (fail)
  go_ret
  exact ⟨by simp, HB5.out⟩

open Go.ChangeShapes Go.WideShapes Go.ChangeAt in
set_option maxRecDepth 100000 in
/-- What the walk gives, for every argument. -/
theorem GlobChecks_contract (H : Type) (enc : TypeId × Value → H) (W : World) (base : Nat) (args : Array Value) (ds gs : List (DataW H)) (before : List MemPlace)
    (hval : ∀ (j : Nat) t v, Tryz.f3.params[j]? = some t → args[j]? = some v → Value.okWide Tryz.prog W .any base t v)
    (hW : DataW.Whole enc Tryz.prog Tryz.f3.params.toList Rows.globChecksSpec.vars false W args.toList ds gs before) (hL : laidMetH Tryz.prog Rows.globChecksRow.laid W) (hS : W.ShapedOpen Tryz.prog) (hk : Rows.uptoSmall H (ds ++ gs) = true) :
    Calls Tryz.prog 3 args W fun e W' => ∃ v, e = .returned v ∧ Rows.globChecksSpec.post enc Tryz.prog Tryz.f3 false true false false W args v W' := by
  have hW' := hW
  obtain ⟨p, q, hA0, hV, rfl, hfz, hnd⟩ := hW
  have hA : DataW.TrodAll enc Tryz.prog W 0 (fun _ => true) true Tryz.f3.params.toList args.toList ds p := hA0
  rw [Tryz.params3] at hA hval
  obtain ⟨v0, vs0, d0, ds0, p0, q0, hargs, rfl, rfl, h0, r0⟩ := trodAll_cons hA
  obtain ⟨rfl, rfl, rfl⟩ := trodAll_nil r0
  obtain rfl : args = #[v0] := by cases args; simp_all
  obtain ⟨rfl, rfl⟩ := trodVars_none hV
  obtain ⟨x0, rfl, rfl, rfl, k0⟩ := ChangeMaps.open_string Tryz.underlying9 (hval 0 9 v0 rfl rfl) h0
  have k0 : x0.data.toList.length ≤ 9223372036854775807 := by unfold maxLen at k0; simpa using k0
  clear hA0
  have hbulk := bulk_bound hk
  simp only [List.cons_append, List.nil_append, List.append_nil, Rows.uptoBulkAll] at hbulk
  obtain ⟨m, hm⟩ := laid_of hL hS
  simp [Rows.uptoBulk] at hbulk
  have z0 : x0.data.toList.length = x0.size := by rw [Array.length_toList]; rfl
  refine (GlobChecks_any _ m W hm (by show x0.data.toList.length ≤ _; rw [z0]; omega)).mono ?_
  exact fun e W' ⟨he, hb⟩ => ⟨_, he, law_post rfl hW' rfl (by kernel_rfl) Tryz.underlying4 (by kernel_rfl) laidOut hb⟩

open Go.ChangeShapes Go.WideShapes Go.ChangeAt in
theorem GlobChecks_met (os : Os) : laidMet Tryz.prog Rows.globChecksUptoRow.laid ((laidWorld os).forCall (fun _ _ => 0) ⟨#[], #[.string ⟨#[]⟩], []⟩).memory :=
  laidMet_of_run' 8 (by kernel_rfl) (by kernel_rfl)
open Go.ChangeShapes Go.WideShapes Go.ChangeAt in
theorem GlobChecks_reads (os : Os) {H : Type} (enc : TypeId × Value → H) : ∃ places, DataW.whole enc Tryz.prog ((laidWorld os).forCall (fun _ _ => 0) ⟨#[], #[.string ⟨#[]⟩], []⟩).memory Tryz.f3.params.toList Rows.globChecksSpec.vars false #[.string ⟨#[]⟩].toList 8 = some ([.lit (.string [])], [], places) :=
  ⟨[], by kernel_rfl⟩

open Go.ChangeShapes Go.WideShapes Go.ChangeAt in
set_option maxRecDepth 100000 in
theorem GlobChecks_lifted (os : Os) (started : os.Started) (H : Type) (enc : TypeId × Value → H) (F : Stop.Interp) :
    ReturnsInHanded {} Tryz.checked os 3 .any ((Rows.OpenSpec.upto Rows.globChecksSpec).preRow enc Tryz.prog Tryz.f3 Rows.globChecksUptoRow.domain false Rows.globChecksUptoRow.laid) (((Rows.OpenSpec.upto Rows.globChecksSpec).at F).post enc Tryz.prog Tryz.f3 false true false false) := by
  obtain ⟨places, hx⟩ := GlobChecks_reads os enc
  refine returnsInHanded_of_row (C := Tryz.checked) (s := Rows.OpenSpec.upto Rows.globChecksSpec) own started (by kernel_rfl) Tryz.func3
    (witness_row_at (enc := enc) (C := Tryz.checked) false (laidWorld os) #[.string ⟨#[]⟩] rfl (by kernel_rfl) (by kernel_rfl) (by kernel_rfl)
      (OpenSpec.preRow_of_cond 8 hx (by kernel_rfl) (fun k hk => by cases hk; kernel_rfl) (by kernel_rfl) (GlobChecks_met os))) ?_
  intro W base args ds gs before hval hW _ hcond _ hL hS _
  exact GlobChecks_contract H enc W base args ds gs before hval hW hL hS (hcond _ rfl)

theorem GlobChecks_said : Rows.GlobChecksUptoSaid :=
  OpenClaim.holds_of_cond 3 Tryz.f3 rfl rfl rfl rfl rfl rfl rfl ⟨rfl, rfl, rfl, rfl, rfl⟩ rfl rfl rfl rfl rfl (by kernel_rfl) Tryz.func3 (by kernel_rfl)
    (of_decide_eq_true (by kernel_rfl)) (by unfold Func.isWrapper; first | (rw [if_pos (by decide +kernel)]; kernel_rfl) | (rw [if_neg (by decide +kernel)]; exact ⟨rfl, rfl⟩))
    (fun os started H enc _ F => by rw [OpenClaim.pre_eq_preRow]; exact GlobChecks_lifted os started H enc F)

theorem GlobChecks_holds : Rows.GlobChecksUptoCardSaid :=
  Claim7.holds_tied_plain_at .later [] _ _ _ _ GlobChecks_said (fun _ h => by cases h) (by kernel_rfl) (fun _ h => by cases h) globChecksUpto_row_tie rfl ⟨rfl, rfl⟩ (by kernel_rfl) rfl
    (card_plain (f0 := 3) (fn0 := Tryz.f3) (by kernel_rfl) Tryz.func3 (by kernel_rfl) (by kernel_rfl)) (by kernel_rfl)
end Go.Proofs.YtgppfcaghjbjmaaGreatDoor
end
