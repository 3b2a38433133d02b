/- hawserlaw01.NamePairs: which of two paths is ahead, or within the other, is the document's. For arguments of at most 1048576 letters and places. -/
import Derived.Test.YtpfpjinkifggdaaDoorNameRef2
import Derived.Test.YtpfpjinkifggdaaDoorNameAwake
import Derived.Test.YtpfpjinkifggdaaDoorTabs
import Derived.Test.YtpfpjinkifggdaaDoorCard
namespace Go.Proofs.YtpfpjinkifggdaaDoor
open Go.RowKit Plain

set_option maxHeartbeats 2000000 in
theorem NamePairs_any (a b : List UInt8) (m : Int) (w : World) (hL : Laid w m) (ha : a.length ≤ 8796093022200) (hb : b.length ≤ 8796093022200) :
    Calls Tryd.prog 4 #[.string ⟨a.toArray⟩, .string ⟨b.toArray⟩] w (Ret w (.bool true)) := by
  have HAW := Lib.hid (awake_any m w hL)
  have HO := Lib.hid (fun W => Order_any a b W (by omega) (by omega))
  have HOR := Lib.hid (fun W => Order_ref a b W ha hb)
  have HW := Lib.hid (fun W (h : Below w.heap.size w W) => Within_any a b W (hL.below h).tabs)
  have HWR := Lib.hid (fun W => Within_ref a b W ha hb)
  clear hL ha hb
  have hx : -1 ≤ orderM a b ∧ orderM a b ≤ 1 := by rcases orderP_cases (parts a) (parts b) with h | h | h <;> unfold orderM <;> omega
  obtain ⟨hx1, hx2⟩ := hx
  generalize orderM a b = x at *
  generalize withinM a b = y at *
  go_enter Tryd.func4, Tryd.ntmps4
  go_wp2_with (fail)
  refine HAW.out.mono ?_
  rintro e w1 ⟨rfl, hw1⟩
  go_wp2_with (fail)
  refine (HO.out w1).mono ?_
  rintro e w2 ⟨rfl, hw2⟩
  have hB2 := hw1.trans (hw2.mono hw1.size)
  clear hw1 hw2
  go_wp2_with (fail)
  refine (HOR.out w2).mono ?_
  rintro e w3 ⟨rfl, hw3⟩
  have hB3 := hB2.trans (hw3.mono hB2.size)
  clear hw3 hB2
  go_wp2_with (fail)
  refine (HW.out w3 hB3).mono ?_
  rintro e w4 ⟨rfl, hw4⟩
  have hB4 := hB3.trans (hw4.mono hB3.size)
  clear hw4 hB3
  go_wp2_with (fail)
  refine (HWR.out w4).mono ?_
  rintro e w5 ⟨rfl, hw5⟩
  have hB5 := hB4.trans (hw5.mono hB4.size)
  clear hw5 hB4
  go_wp2_with (fail)
  go_ret
  exact ⟨by simp, hB5⟩

open Go.ChangeShapes Go.WideShapes Go.ChangeAt in
/-- What the walk gives, for every argument. -/
theorem NamePairs_contract (H : Type) (enc : TypeId × Value → H) (W : World) (base : Nat) (args : Array Value) (ds gs : List (DataW H)) (before : List MemPlace)
    (hval : ∀ (j : Nat) t v, Tryd.f4.params[j]? = some t → args[j]? = some v → Value.okWide Tryd.prog W .any base t v)
    (hW : DataW.Whole enc Tryd.prog Tryd.f4.params.toList Rows.namePairsSpec.vars false W args.toList ds gs before) (hL : laidMetH Tryd.prog Rows.namePairsRow.laid W) (hS : W.ShapedOpen Tryd.prog) (hk : Rows.uptoSmall H (ds ++ gs) = true) :
    Calls Tryd.prog 4 args W fun e W' => ∃ v, e = .returned v ∧ Rows.namePairsSpec.post enc Tryd.prog Tryd.f4 false true false false W args v W' := by
  have hW' := hW
  obtain ⟨p, q, hA0, hV, rfl, hfz, hnd⟩ := hW
  have hA : DataW.TrodAll enc Tryd.prog W 0 (fun _ => true) true Tryd.f4.params.toList args.toList ds p := hA0
  rw [Tryd.params4] at hA hval
  obtain ⟨v0, vs0, d0, ds0, p0, q0, hargs, rfl, rfl, h0, r0⟩ := trodAll_cons hA
  obtain ⟨v1, vs1, d1, ds1, p1, q1, rfl, rfl, rfl, h1, r1⟩ := trodAll_cons r0
  obtain ⟨rfl, rfl, rfl⟩ := trodAll_nil r1
  obtain rfl : args = #[v0, v1] := by cases args; simp_all
  obtain ⟨rfl, rfl⟩ := trodVars_none hV
  obtain ⟨x0, rfl, rfl, rfl, k0⟩ := ChangeMaps.open_string Tryd.underlying9 (hval 0 9 v0 rfl rfl) h0
  have k0 : x0.data.toList.length ≤ 9223372036854775807 := by unfold maxLen at k0; simpa using k0
  obtain ⟨x1, rfl, rfl, rfl, k1⟩ := ChangeMaps.open_string Tryd.underlying9 (hval 1 9 v1 rfl rfl) h1
  have k1 : x1.data.toList.length ≤ 9223372036854775807 := by unfold maxLen at k1; simpa using k1
  clear hA0
  have hbulk := bulk_bound hk
  simp only [List.cons_append, List.nil_append, List.append_nil, Rows.uptoBulkAll] at hbulk
  obtain ⟨m, hm⟩ := laid_of hL hS
  simp [Rows.uptoBulk] at hbulk
  have z0 : x0.data.toList.length = x0.size := by rw [Array.length_toList]; rfl
  have z1 : x1.data.toList.length = x1.size := by rw [Array.length_toList]; rfl
  refine (NamePairs_any _ _ m W hm (by show x0.data.toList.length ≤ _; rw [z0]; omega) (by show x1.data.toList.length ≤ _; rw [z1]; omega)).mono ?_
  exact fun e W' ⟨he, hb⟩ => ⟨_, he, law_post rfl hW' rfl (by kernel_rfl) Tryd.underlying4 (by kernel_rfl) laidOut hb⟩

open Go.ChangeShapes Go.WideShapes Go.ChangeAt in
theorem NamePairs_met (os : Os) : laidMet Tryd.prog Rows.namePairsUptoRow.laid ((laidWorld os).forCall (fun _ _ => 0) ⟨#[], #[.string ⟨#[]⟩, .string ⟨#[]⟩], []⟩).memory :=
  laidMet_of_run' 8 (by kernel_rfl) (by kernel_rfl)
open Go.ChangeShapes Go.WideShapes Go.ChangeAt in
theorem NamePairs_reads (os : Os) {H : Type} (enc : TypeId × Value → H) : ∃ places, DataW.whole enc Tryd.prog ((laidWorld os).forCall (fun _ _ => 0) ⟨#[], #[.string ⟨#[]⟩, .string ⟨#[]⟩], []⟩).memory Tryd.f4.params.toList Rows.namePairsSpec.vars false #[.string ⟨#[]⟩, .string ⟨#[]⟩].toList 8 = some ([.lit (.string []), .lit (.string [])], [], places) :=
  ⟨[], by kernel_rfl⟩

open Go.ChangeShapes Go.WideShapes Go.ChangeAt in
set_option maxRecDepth 100000 in
theorem NamePairs_lifted (os : Os) (started : os.Started) (H : Type) (enc : TypeId × Value → H) (F : Stop.Interp) :
    ReturnsInHanded {} Tryd.checked os 4 .any ((Rows.OpenSpec.upto Rows.namePairsSpec).preRow enc Tryd.prog Tryd.f4 Rows.namePairsUptoRow.domain false Rows.namePairsUptoRow.laid) (((Rows.OpenSpec.upto Rows.namePairsSpec).at F).post enc Tryd.prog Tryd.f4 false true false false) := by
  obtain ⟨places, hx⟩ := NamePairs_reads os enc
  refine returnsInHanded_of_row (C := Tryd.checked) (s := Rows.OpenSpec.upto Rows.namePairsSpec) own started (by kernel_rfl) Tryd.func4
    (witness_row_at (enc := enc) (C := Tryd.checked) false (laidWorld os) #[.string ⟨#[]⟩, .string ⟨#[]⟩] rfl (by kernel_rfl) (by kernel_rfl) (by kernel_rfl)
      (OpenSpec.preRow_of_cond 8 hx (by kernel_rfl) (fun k hk => by cases hk; kernel_rfl) (by kernel_rfl) (NamePairs_met os))) ?_
  intro W base args ds gs before hval hW _ hcond _ hL hS _
  exact NamePairs_contract H enc W base args ds gs before hval hW hL hS (hcond _ rfl)

theorem NamePairs_said : Rows.NamePairsUptoSaid :=
  OpenClaim.holds_of_cond 4 Tryd.f4 rfl rfl rfl rfl rfl rfl rfl ⟨rfl, rfl, rfl, rfl, rfl⟩ rfl rfl rfl rfl rfl (by kernel_rfl) Tryd.func4 (by kernel_rfl)
    (of_decide_eq_true (by kernel_rfl)) (by unfold Func.isWrapper; first | (rw [if_pos (by decide +kernel)]; kernel_rfl) | (rw [if_neg (by decide +kernel)]; exact ⟨rfl, rfl⟩))
    (fun os started H enc _ F => by rw [OpenClaim.pre_eq_preRow]; exact NamePairs_lifted os started H enc F)

theorem NamePairs_holds : Rows.NamePairsUptoCardSaid :=
  Claim7.holds_tied_plain_at .later [] _ _ _ _ NamePairs_said (fun _ h => by cases h) (by kernel_rfl) (fun _ h => by cases h) namePairsUpto_row_tie rfl ⟨rfl, rfl⟩ (by kernel_rfl) rfl
    (card_plain (f0 := 4) (fn0 := Tryd.f4) (by kernel_rfl) Tryd.func4 (by kernel_rfl) (by kernel_rfl)) (by kernel_rfl)
end Go.Proofs.YtpfpjinkifggdaaDoor
