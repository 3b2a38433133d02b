/- hawserlaw17.MergeSame: the frame of the card. -/
import Derived.Test.YtgbiddjkjdggpaaDoorMergeSame
import Derived.Test.YtgbiddjkjdggpaaDoorCellMax
namespace Go.Proofs.YtgbiddjkjdggpaaDoor
open Go.RowKit Plain

open Go.ChangeShapes Go.WideShapes Go.ChangeAt in
/-- What the walk gives, for every argument. -/
theorem MergeSame_contract (H : Type) (enc : TypeId × Value → H) (W : World) (base : Nat) (args : Array Value) (ds gs : List (DataW H)) (before : List MemPlace)
    (hval : ∀ (j : Nat) t v, Tryd.f6.params[j]? = some t → args[j]? = some v → Value.okWide Tryd.prog W .any base t v)
    (hW : DataW.Whole enc Tryd.prog Tryd.f6.params.toList Rows.mergeSameSpec.vars false W args.toList ds gs before) (hL : laidMetH Tryd.prog Rows.mergeSameRow.laid W) (hS : W.ShapedOpen Tryd.prog) :
    Calls Tryd.prog 6 args W fun e W' => ∃ v, e = .returned v ∧ Rows.mergeSameSpec.post enc Tryd.prog Tryd.f6 false true false false W args v W' := by
  have hW' := hW
  obtain ⟨p, q, hA0, hV, rfl, hfz, hnd⟩ := hW
  have hA : DataW.TrodAll enc Tryd.prog W 0 (fun _ => true) true Tryd.f6.params.toList args.toList ds p := hA0
  rw [Tryd.params6] at hA hval
  obtain ⟨v0, vs0, d0, ds0, p0, q0, hargs, rfl, rfl, h0, r0⟩ := trodAll_cons hA
  obtain ⟨rfl, rfl, rfl⟩ := trodAll_nil r0
  obtain rfl : args = #[v0] := by cases args; simp_all
  obtain ⟨rfl, rfl⟩ := trodVars_none hV
  obtain ⟨xa0, xb0, xc0, ya0, yb0, yc0, fu0, rfl, rfl, rfl, ha0, hb0, hc0⟩ := Go.Joins.open_agg3 Tryd.underlying23 (by kernel_rfl) (by kernel_rfl) (hval 0 23 v0 rfl rfl) h0
  obtain ⟨a0, ea0, rfl, ka0⟩ := trod_str Tryd.underlying9 ha0
  obtain ⟨b0, eb0, rfl, kb0⟩ := trod_str Tryd.underlying9 hb0
  obtain ⟨c0, ec0, rfl, kc0⟩ := trod_str Tryd.underlying9 hc0
  subst ea0 eb0 ec0
  clear hA0
  obtain ⟨m, hm⟩ := cell_maxLen hS
  refine (MergeSame_any _ _ _ m W (by unfold maxLen at *; omega) (by unfold maxLen at *; omega) (by unfold maxLen at *; omega) hm).mono ?_
  exact fun e W' ⟨he, hb⟩ => ⟨_, he, law_post rfl hW' rfl (by kernel_rfl) Tryd.underlying4 (by kernel_rfl) laidOut hb⟩

open Go.ChangeShapes Go.WideShapes Go.ChangeAt in
theorem MergeSame_met (os : Os) : laidMet Tryd.prog Rows.mergeSameRow.laid ((laidWorld os).forCall (fun _ _ => 0) ⟨#[], #[.agg #[.string ⟨#[]⟩, .string ⟨#[]⟩, .string ⟨#[]⟩]], []⟩).memory :=
  laidMet_of_run' 8 (by kernel_rfl) (by kernel_rfl)
open Go.ChangeShapes Go.WideShapes Go.ChangeAt in
theorem MergeSame_reads (os : Os) {H : Type} (enc : TypeId × Value → H) : ∃ places, DataW.whole enc Tryd.prog ((laidWorld os).forCall (fun _ _ => 0) ⟨#[], #[.agg #[.string ⟨#[]⟩, .string ⟨#[]⟩, .string ⟨#[]⟩]], []⟩).memory Tryd.f6.params.toList Rows.mergeSameSpec.vars false #[.agg #[.string ⟨#[]⟩, .string ⟨#[]⟩, .string ⟨#[]⟩]].toList 8 = some ([.agg [.lit (.string []), .lit (.string []), .lit (.string [])]], [], places) :=
  ⟨[], by kernel_rfl⟩

open Go.ChangeShapes Go.WideShapes Go.ChangeAt in
set_option maxRecDepth 100000 in
theorem MergeSame_lifted (os : Os) (started : os.Started) (H : Type) (enc : TypeId × Value → H) (F : Stop.Interp) :
    ReturnsInHanded {} Tryd.checked os 6 .any ((OpenSpec.ofChange Rows.mergeSameSpec).preRow enc Tryd.prog Tryd.f6 Rows.mergeSameRow.domain false Rows.mergeSameRow.laid) (((OpenSpec.ofChange Rows.mergeSameSpec).at F).post enc Tryd.prog Tryd.f6 false true false false) := by
  obtain ⟨places, hx⟩ := MergeSame_reads os enc
  refine returnsInHanded_of_row (C := Tryd.checked) (s := OpenSpec.ofChange Rows.mergeSameSpec) own started (by kernel_rfl) Tryd.func6
    (witness_row_at (enc := enc) (C := Tryd.checked) false (laidWorld os) #[.agg #[.string ⟨#[]⟩, .string ⟨#[]⟩, .string ⟨#[]⟩]] rfl (by kernel_rfl) (by kernel_rfl) (by kernel_rfl)
      (OpenSpec.preRow_of_cond 8 hx (by kernel_rfl) (fun k hk => by cases hk) (by kernel_rfl) (MergeSame_met os))) ?_
  intro W base args ds gs before hval hW _ hcond _ hL hS _
  exact MergeSame_contract H enc W base args ds gs before hval hW hL hS

theorem MergeSame_said : Rows.MergeSameSaid :=
  OpenClaim.holds_of_cond 6 Tryd.f6 rfl rfl rfl rfl rfl rfl rfl ⟨rfl, rfl, rfl, rfl, rfl⟩ rfl rfl rfl rfl rfl (by kernel_rfl) Tryd.func6 (by kernel_rfl)
    (of_decide_eq_true (by kernel_rfl)) (by unfold Func.isWrapper; first | (rw [if_pos (by decide +kernel)]; kernel_rfl) | (rw [if_neg (by decide +kernel)]; exact ⟨rfl, rfl⟩))
    (fun os started H enc _ F => by rw [OpenClaim.pre_eq_preRow]; exact MergeSame_lifted os started H enc F)

theorem MergeSame_holds : Rows.MergeSameCardSaid :=
  Claim7.holds_tied_plain_at .later [] _ _ _ _ MergeSame_said (fun _ h => by cases h) (by kernel_rfl) (fun _ h => by cases h) mergeSame_row_tie rfl ⟨rfl, rfl⟩ (by kernel_rfl) rfl
    (card_plain (f0 := 6) (fn0 := Tryd.f6) (by kernel_rfl) Tryd.func6 (by kernel_rfl) (by kernel_rfl)) (by kernel_rfl)
end Go.Proofs.YtgbiddjkjdggpaaDoor
