/- hawserlaw01.NameTexts: names, paths and what is asked of one text are the document's. For arguments of at most 1048576 letters and places. -/
import Derived.Test.YtpfpjinkifggdaaDoorNameRef2
import Derived.Test.YtpfpjinkifggdaaDoorNameAwake
import Derived.Test.YtpfpjinkifggdaaDoorTabs
import Derived.Test.YtpfpjinkifggdaaDoorCard
namespace Go.Proofs.YtpfpjinkifggdaaDoor
open Go.RowKit Plain

set_option maxHeartbeats 2000000 in
theorem NameTexts_any (s : List UInt8) (m : Int) (w : World) (hL : Laid w m) (hs : s.length ≤ 8796093022200) :
    Calls Tryd.prog 7 #[.string ⟨s.toArray⟩] w (Ret w (.bool true)) := by
  have HAW := Lib.hid (awake_any m w hL)
  have HN := Lib.hid (fun W (h : Below w.heap.size w W) => Name_any s W (hL.below h).tabs)
  have HNR := Lib.hid (fun W => Name_ref s W (by omega))
  have HP := Lib.hid (fun W (h : Below w.heap.size w W) => Path_any s W (hL.below h).tabs)
  have HPR := Lib.hid (fun W => Path_ref s W hs)
  have HU := Lib.hid (fun W (h : Below w.heap.size w W) => Parent_any s W (hL.below h).tabs (by omega))
  have HUR := Lib.hid (fun W => Parent_ref s W hs)
  have HB := Lib.hid (fun W (h : Below w.heap.size w W) => Base_any s W (hL.below h).tabs (by omega))
  have HBR := Lib.hid (fun W => Base_ref s W hs)
  have HF := Lib.hid (fun W => Fold_any s W (by omega))
  have HFR := Lib.hid (fun W => Fold_ref s W hs)
  have HS := Lib.hid (fun W (h : Below w.heap.size w W) => Split_any s m W (hL.below h))
  have HSR := Lib.hid (fun W => Split_ref s W hs)
  have hsl := splitM_length s
  clear hL hs
  generalize nameOK s = b1 at *
  generalize pathOK s = b2 at *
  generalize parentM s = u at *
  generalize baseM s = v at *
  generalize foldM s = f at *
  generalize splitM s = l at *
  have HT := Lib.hid (fun A B ca cb W h1 h2 => Texts_same A B ca cb l W h1 h2 (by omega))
  go_enter Tryd.func7, Tryd.ntmps7
  go_wp2_with (fail)
  refine HAW.out.mono ?_
  rintro e w1 ⟨rfl, hB1⟩
  go_wp2_with (fail)
  refine (HN.out w1 hB1).mono ?_
  rintro e w2 ⟨rfl, hw2⟩
  have hB2 := hB1.trans (hw2.mono hB1.size)
  clear hw2 hB1
  go_wp2_with (fail)
  refine (HNR.out w2).mono ?_
  rintro e w3 ⟨rfl, hw3⟩
  have hB3 := hB2.trans (hw3.mono hB2.size)
  clear hw3 hB2
  go_wp2_with (fail)
  refine (HP.out w3 hB3).mono ?_
  rintro e w4 ⟨rfl, hw4⟩
  have hB4 := hB3.trans (hw4.mono hB3.size)
  clear hw4 hB3
  go_wp2_with (fail)
  refine (HPR.out w4).mono ?_
  rintro e w5 ⟨rfl, hw5⟩
  have hB5 := hB4.trans (hw5.mono hB4.size)
  clear hw5 hB4
  go_wp2_with (fail)
  refine (HU.out w5 hB5).mono ?_
  rintro e w6 ⟨rfl, hw6⟩
  have hB6 := hB5.trans (hw6.mono hB5.size)
  clear hw6 hB5
  go_wp2_with (fail)
  refine (HUR.out w6).mono ?_
  rintro e w7 ⟨rfl, hw7⟩
  have hB7 := hB6.trans (hw7.mono hB6.size)
  clear hw7 hB6
  go_wp2_with (fail)
  refine (HB.out w7 hB7).mono ?_
  rintro e w8 ⟨rfl, hw8⟩
  have hB8 := hB7.trans (hw8.mono hB7.size)
  clear hw8 hB7
  go_wp2_with (fail)
  refine (HBR.out w8).mono ?_
  rintro e w9 ⟨rfl, hw9⟩
  have hB9 := hB8.trans (hw9.mono hB8.size)
  clear hw9 hB8
  go_wp2_with (fail)
  refine (HF.out w9).mono ?_
  rintro e w10 ⟨rfl, hw10⟩
  have hB10 := hB9.trans (hw10.mono hB9.size)
  clear hw10 hB9
  go_wp2_with (fail)
  refine (HFR.out w10).mono ?_
  rintro e w11 ⟨rfl, hw11⟩
  have hB11 := hB10.trans (hw11.mono hB10.size)
  clear hw11 hB10
  go_wp2_with (fail)
  refine (HS.out w11 hB11).mono ?_
  rintro e w12 ⟨A, ca, rfl, hca, hma, hra, hw12, hA0⟩
  have hB12 := hB11.trans (hw12.mono hB11.size)
  clear hw12 hB11
  go_wp2_with (fail)
  refine (HSR.out w12).mono ?_
  rintro e w13 ⟨B, cb, rfl, hcb, hmb, hrb, hw13, hB0⟩
  have hB13 := hB12.trans (hw13.mono hB12.size)
  have hra13 := hra.below hw13
  clear hw13 hB12 hra
  go_wp2_with (fail)
  refine (HT.out _ _ _ _ w13 hra13 hrb).mono ?_
  rintro e w14 ⟨rfl, hw14⟩
  have hB14 := hB13.trans (hw14.mono hB13.size)
  clear hw14 hB13
  go_wp2_with (fail)
  go_ret
  exact ⟨by simp, hB14⟩

open Go.ChangeShapes Go.WideShapes Go.ChangeAt in
/-- What the walk gives, for every argument. -/
theorem NameTexts_contract (H : Type) (enc : TypeId × Value → H) (W : World) (base : Nat) (args : Array Value) (ds gs : List (DataW H)) (before : List MemPlace)
    (hval : ∀ (j : Nat) t v, Tryd.f7.params[j]? = some t → args[j]? = some v → Value.okWide Tryd.prog W .any base t v)
    (hW : DataW.Whole enc Tryd.prog Tryd.f7.params.toList Rows.nameTextsSpec.vars false W args.toList ds gs before) (hL : laidMetH Tryd.prog Rows.nameTextsRow.laid W) (hS : W.ShapedOpen Tryd.prog) (hk : Rows.uptoSmall H (ds ++ gs) = true) :
    Calls Tryd.prog 7 args W fun e W' => ∃ v, e = .returned v ∧ Rows.nameTextsSpec.post enc Tryd.prog Tryd.f7 false true false false W args v W' := by
  have hW' := hW
  obtain ⟨p, q, hA0, hV, rfl, hfz, hnd⟩ := hW
  have hA : DataW.TrodAll enc Tryd.prog W 0 (fun _ => true) true Tryd.f7.params.toList args.toList ds p := hA0
  rw [Tryd.params7] at hA hval
  obtain ⟨v0, vs0, d0, ds0, p0, q0, hargs, rfl, rfl, h0, r0⟩ := trodAll_cons hA
  obtain ⟨rfl, rfl, rfl⟩ := trodAll_nil r0
  obtain rfl : args = #[v0] := by cases args; simp_all
  obtain ⟨rfl, rfl⟩ := trodVars_none hV
  obtain ⟨x0, rfl, rfl, rfl, k0⟩ := ChangeMaps.open_string Tryd.underlying9 (hval 0 9 v0 rfl rfl) h0
  have k0 : x0.data.toList.length ≤ 9223372036854775807 := by unfold maxLen at k0; simpa using k0
  clear hA0
  have hbulk := bulk_bound hk
  simp only [List.cons_append, List.nil_append, List.append_nil, Rows.uptoBulkAll] at hbulk
  obtain ⟨m, hm⟩ := laid_of hL hS
  simp [Rows.uptoBulk] at hbulk
  have z0 : x0.data.toList.length = x0.size := by rw [Array.length_toList]; rfl
  refine (NameTexts_any _ m W hm (by show x0.data.toList.length ≤ _; rw [z0]; omega)).mono ?_
  exact fun e W' ⟨he, hb⟩ => ⟨_, he, law_post rfl hW' rfl (by kernel_rfl) Tryd.underlying4 (by kernel_rfl) laidOut hb⟩

open Go.ChangeShapes Go.WideShapes Go.ChangeAt in
theorem NameTexts_met (os : Os) : laidMet Tryd.prog Rows.nameTextsUptoRow.laid ((laidWorld os).forCall (fun _ _ => 0) ⟨#[], #[.string ⟨#[]⟩], []⟩).memory :=
  laidMet_of_run' 8 (by kernel_rfl) (by kernel_rfl)
open Go.ChangeShapes Go.WideShapes Go.ChangeAt in
theorem NameTexts_reads (os : Os) {H : Type} (enc : TypeId × Value → H) : ∃ places, DataW.whole enc Tryd.prog ((laidWorld os).forCall (fun _ _ => 0) ⟨#[], #[.string ⟨#[]⟩], []⟩).memory Tryd.f7.params.toList Rows.nameTextsSpec.vars false #[.string ⟨#[]⟩].toList 8 = some ([.lit (.string [])], [], places) :=
  ⟨[], by kernel_rfl⟩

open Go.ChangeShapes Go.WideShapes Go.ChangeAt in
set_option maxRecDepth 100000 in
theorem NameTexts_lifted (os : Os) (started : os.Started) (H : Type) (enc : TypeId × Value → H) (F : Stop.Interp) :
    ReturnsInHanded {} Tryd.checked os 7 .any ((Rows.OpenSpec.upto Rows.nameTextsSpec).preRow enc Tryd.prog Tryd.f7 Rows.nameTextsUptoRow.domain false Rows.nameTextsUptoRow.laid) (((Rows.OpenSpec.upto Rows.nameTextsSpec).at F).post enc Tryd.prog Tryd.f7 false true false false) := by
  obtain ⟨places, hx⟩ := NameTexts_reads os enc
  refine returnsInHanded_of_row (C := Tryd.checked) (s := Rows.OpenSpec.upto Rows.nameTextsSpec) own started (by kernel_rfl) Tryd.func7
    (witness_row_at (enc := enc) (C := Tryd.checked) false (laidWorld os) #[.string ⟨#[]⟩] rfl (by kernel_rfl) (by kernel_rfl) (by kernel_rfl)
      (OpenSpec.preRow_of_cond 8 hx (by kernel_rfl) (fun k hk => by cases hk; kernel_rfl) (by kernel_rfl) (NameTexts_met os))) ?_
  intro W base args ds gs before hval hW _ hcond _ hL hS _
  exact NameTexts_contract H enc W base args ds gs before hval hW hL hS (hcond _ rfl)

theorem NameTexts_said : Rows.NameTextsUptoSaid :=
  OpenClaim.holds_of_cond 7 Tryd.f7 rfl rfl rfl rfl rfl rfl rfl ⟨rfl, rfl, rfl, rfl, rfl⟩ rfl rfl rfl rfl rfl (by kernel_rfl) Tryd.func7 (by kernel_rfl)
    (of_decide_eq_true (by kernel_rfl)) (by unfold Func.isWrapper; first | (rw [if_pos (by decide +kernel)]; kernel_rfl) | (rw [if_neg (by decide +kernel)]; exact ⟨rfl, rfl⟩))
    (fun os started H enc _ F => by rw [OpenClaim.pre_eq_preRow]; exact NameTexts_lifted os started H enc F)

theorem NameTexts_holds : Rows.NameTextsUptoCardSaid :=
  Claim7.holds_tied_plain_at .later [] _ _ _ _ NameTexts_said (fun _ h => by cases h) (by kernel_rfl) (fun _ h => by cases h) nameTextsUpto_row_tie rfl ⟨rfl, rfl⟩ (by kernel_rfl) rfl
    (card_plain (f0 := 7) (fn0 := Tryd.f7) (by kernel_rfl) Tryd.func7 (by kernel_rfl) (by kernel_rfl)) (by kernel_rfl)
end Go.Proofs.YtpfpjinkifggdaaDoor
