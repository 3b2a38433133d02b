/- hawserlaw05.RecReads, where what it is handed is small: whatever bytes the law is handed, it answers true: what is read of them is the document's. Condition: the bound of the second form. -/
import Derived.Test.YtfddhhaecfjepaaRecLaw
import Derived.Test.YtfddhhaecfjepaaTexts
import Derived.Test.YtfddhhaecfjepaaOpen
namespace Go.Proofs.Ytfddhhaecfjepaa
open Go.RowKit Plain

set_option maxHeartbeats 400000 in
theorem RecReads_any (s : List UInt8) (w : World) (hs : s.length ≤ 35184372088832) :
    Calls Try.prog 4 #[.string ⟨s.toArray⟩] w (Ret w (.bool true)) := by
  have hlen : (all s).1.length ≤ 9223372036854775807 := by have := all_length s; omega
  go_enter Try.func4, Try.ntmps4
  go_wp2_with (fail)
  refine (Ret.quiet (Below.refl _ _) (awake_any _)).mono ?_
  rintro e w1 ⟨rfl, hb1⟩
  go_wp2_with (fail)
  refine (All_any s _ hs).mono ?_
  rintro e w2 ⟨v2, rfl, h2, hb2⟩
  go_wp2_with (fail)
  refine (All_ref s _ hs).mono ?_
  rintro e w3 ⟨v3, rfl, h3, hb3⟩
  go_wp2_with (fail)
  have hb := (hb1.trans (hb2.mono hb1.size)).trans (hb3.mono (Nat.le_trans hb1.size hb2.size))
  have h2' := h2.below hb3
  obtain ⟨A, c, rfl, _, _, hr2⟩ := h2'
  obtain ⟨A', c', rfl, _, _, hr3⟩ := h3
  clear hb1 hb2 hb3 h2
  refine (Ret.quiet (Below.refl _ _) (Next_any s _ (by omega))).mono ?_
  rintro e w4 ⟨rfl, hb4⟩
  go_wp2_with (fail)
  refine (Ret.quiet (hb4) (Next_ref s _ (by omega))).mono ?_
  rintro e w5 ⟨rfl, hb5⟩
  go_wp2_with (fail)
  refine (Ret.quiet (hb5) (One_any s _ (by omega))).mono ?_
  rintro e w6 ⟨rfl, hb6⟩
  go_wp2_with (fail)
  refine (Ret.quiet (hb6) (One_ref s _ (by omega))).mono ?_
  rintro e w7 ⟨rfl, hb7⟩
  go_wp2_with (fail)
  refine (Ret.quiet (hb7) (Texts_any _ _ _ _ _ _ _ (hr2.below hb7) (hr3.below hb7) hlen hlen)).mono ?_
  rintro e w8 ⟨rfl, hb8⟩
  go_wp2_with (fail)
  go_ret
  exact ⟨rfl, hb.trans (hb8.mono hb.size)⟩

open Go.ChangeShapes Go.WideShapes Go.ChangeAt in
/-- What the walk gives, for every argument. -/
theorem RecReads_contract (H : Type) (enc : TypeId × Value → H) (W : World) (base : Nat) (args : Array Value) (ds gs : List (DataW H)) (before : List MemPlace)
    (hval : ∀ (j : Nat) t v, Try.f4.params[j]? = some t → args[j]? = some v → Value.okWide Try.prog W .any base t v)
    (hW : DataW.Whole enc Try.prog Try.f4.params.toList Rows.recReadsSpec.vars false W args.toList ds gs before) (hk : Rows.uptoSmall H (ds ++ gs) = true) :
    Calls Try.prog 4 args W fun e W' => ∃ v, e = .returned v ∧ Rows.recReadsSpec.post enc Try.prog Try.f4 false true false false W args v W' := by
  have hW' := hW
  obtain ⟨p, q, hA0, hV, rfl, hfz, hnd⟩ := hW
  have hA : DataW.TrodAll enc Try.prog W 0 (fun _ => true) true Try.f4.params.toList args.toList ds p := hA0
  rw [Try.params4] at hA hval
  obtain ⟨v0, vs0, d0, ds0, p0, q0, hargs, rfl, rfl, h0, r0⟩ := trodAll_cons hA
  obtain ⟨rfl, rfl, rfl⟩ := trodAll_nil r0
  obtain rfl : args = #[v0] := by cases args; simp_all
  obtain ⟨rfl, rfl⟩ := trodVars_none hV
  obtain ⟨x0, rfl, rfl, rfl, k0⟩ := ChangeMaps.open_string Try.underlying9 (hval 0 9 v0 rfl rfl) h0
  have k0 : x0.data.toList.length ≤ 9223372036854775807 := by unfold maxLen at k0; simpa using k0
  clear hA0
  have hbulk := bulk_bound hk
  simp only [List.cons_append, List.nil_append, List.append_nil, Rows.uptoBulkAll] at hbulk
  simp only [Rows.uptoBulk] at hbulk
  refine (RecReads_any x0.data.toList W (by omega)).mono ?_
  exact fun e W' ⟨he, hb⟩ => ⟨_, he, law_post rfl hW' rfl (by kernel_rfl) Try.underlying4 (by kernel_rfl) laidOut hb⟩

open Go.ChangeShapes Go.WideShapes Go.ChangeAt in
set_option maxRecDepth 100000 in
theorem RecReads_lifted (os : Os) (started : os.Started) (H : Type) (enc : TypeId × Value → H) (F : Stop.Interp) :
    ReturnsInHanded {} Try.checked os 4 .any ((Rows.OpenSpec.upto Rows.recReadsSpec).pre6 enc Try.prog Try.f4 Rows.recReadsUptoRow.domain false) (((Rows.OpenSpec.upto Rows.recReadsSpec).at F).post enc Try.prog Try.f4 false true false false) := by
  refine returnsInHanded_of_cond (C := Try.checked) (s := Rows.OpenSpec.upto Rows.recReadsSpec) (k := Rows.uptoSmall) rfl own started (by kernel_rfl) Try.func4
    (OpenSpec.witness (enc := enc) (C := Try.checked) (s := Rows.OpenSpec.upto Rows.recReadsSpec) (k := Rows.uptoSmall) rfl false ⟨#[], #[.string ⟨#[]⟩], []⟩ 8 (by kernel_rfl) (by kernel_rfl) (by kernel_rfl)
      (x := ([.lit (.string [])], [], [])) (by kernel_rfl) rfl (by kernel_rfl)) ?_
  intro W base args ds gs before hval hW _ hk _
  exact RecReads_contract H enc W base args ds gs before hval hW hk

theorem RecReads_holds : Rows.RecReadsUptoSaid :=
  OpenClaim.holds_of_cond 4 Try.f4 rfl rfl rfl rfl rfl rfl rfl ⟨rfl, rfl, rfl, rfl, rfl⟩ rfl rfl rfl rfl rfl (by kernel_rfl) Try.func4 (by kernel_rfl)
    (of_decide_eq_true (by kernel_rfl)) (by unfold Func.isWrapper; first | (rw [if_pos (by decide +kernel)]; kernel_rfl) | (rw [if_neg (by decide +kernel)]; exact ⟨rfl, rfl⟩))
    (fun os started H enc _ F => RecReads_lifted os started H enc F)

end Go.Proofs.Ytfddhhaecfjepaa
