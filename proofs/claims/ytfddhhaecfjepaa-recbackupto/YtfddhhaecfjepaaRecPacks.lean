/- hawserlaw05.RecPacks, where what it is handed is small: whatever list of texts the law is handed, it answers true: records of payloads are the document's. Condition: the bound of the second form. -/
import Derived.Test.YtfddhhaecfjepaaRecLaw
import Derived.Test.YtfddhhaecfjepaaOpen
namespace Go.Proofs.Ytfddhhaecfjepaa
open Go.RowKit Plain

theorem join_size (l : List (List UInt8)) : (l.flatMap record).length ≤ 8 * weight l := by
  unfold weight
  induction l with
  | nil => simp
  | cons s l ih => simp only [List.flatMap_cons, List.length_append, record_length, List.map_cons, List.sum_cons]; omega

set_option maxHeartbeats 400000 in
theorem RecPacks_any (A : Option Addr) (c : Nat) (l : List (List UInt8)) (w : World) (hl : Reads w 1 A l.length (strs l)) (hw : weight l ≤ 1048576) :
    Calls Try.prog 5 #[.slice A l.length c] w (Ret w (.bool true)) := by
  have hlen := weight_length l
  have hj := join_size l
  have hall : ∀ p ∈ l, p.length ≤ 9223372036854775807 := fun p hp => by have := weight_mem hp; omega
  have HALL := Lib.hid hall
  clear hall
  go_enter Try.func5, Try.ntmps5
  go_wp2_with (fail)
  refine (Ret.quiet (Below.refl _ _) (awake_any _)).mono ?_
  rintro e w1 ⟨rfl, hb1⟩
  go_wp2_with (fail)
  refine (Ret.quiet (hb1) (Join_any A c l _ (hl.below hb1) (by omega) (by omega) HALL.out)).mono ?_
  rintro e w2 ⟨rfl, hb2⟩
  go_wp2_with (fail)
  refine (Ret.quiet (hb2) (Join_ref A c l _ (hl.below hb2) (by omega) (by omega) HALL.out)).mono ?_
  rintro e w3 ⟨rfl, hb3⟩
  go_wp2_with (fail)
  go_loopw [8, 9, 10, 11, 12, 35] (fun _ _ _ _ _ t35 wr => ∃ k : Nat, k ≤ l.length ∧ t35 = .int .i64 k ∧ Below w.heap.size w wr) (fun _ _ _ _ _ t35 _ => l.length - (intOf t35).toNat)
  case atStart => exact ⟨0, by omega, rfl, hb3⟩
  case round =>
    obtain ⟨k, hk, rfl, hb⟩ := hrel
    by_cases hlt : k < l.length
    · obtain ⟨a, rfl, ca⟩ := (hl.below hb).str_at hlt
      have hpl : (l[k]).length ≤ 9223372036854775807 := HALL.out _ (List.getElem_mem hlt)
      generalize l[k] = p at *
      go_wp2_with (fail)
      refine (Ret.quiet (hb) (Pack_all p _ hpl)).mono ?_
      rintro e w4 ⟨rfl, hb4⟩
      go_wp2_with (fail)
      refine (Ret.quiet (hb4) (Pack_ref p _ hpl)).mono ?_
      rintro e w5 ⟨rfl, hb5⟩
      go_wp2_with (fail)
      go_roundw
      case rel => exact ⟨k + 1, by omega, by go_num, hb5⟩
      case measure => simp [intOf]; omega
    · obtain rfl : k = l.length := by omega
      go_wp2_with (fail)
      go_ret
      exact ⟨rfl, hb⟩

open Go.ChangeShapes Go.WideShapes Go.ChangeAt in
/-- What the walk gives, for every argument. -/
theorem RecPacks_contract (H : Type) (enc : TypeId × Value → H) (W : World) (base : Nat) (args : Array Value) (ds gs : List (DataW H)) (before : List MemPlace)
    (hval : ∀ (j : Nat) t v, Try.f5.params[j]? = some t → args[j]? = some v → Value.okWide Try.prog W .any base t v)
    (hW : DataW.Whole enc Try.prog Try.f5.params.toList Rows.recPacksSpec.vars false W args.toList ds gs before) (hk : Rows.uptoSmall H (ds ++ gs) = true) :
    Calls Try.prog 5 args W fun e W' => ∃ v, e = .returned v ∧ Rows.recPacksSpec.post enc Try.prog Try.f5 false true false false W args v W' := by
  have hW' := hW
  obtain ⟨p, q, hA0, hV, rfl, hfz, hnd⟩ := hW
  have hA : DataW.TrodAll enc Try.prog W 0 (fun _ => true) true Try.f5.params.toList args.toList ds p := hA0
  rw [Try.params5] at hA hval
  obtain ⟨v0, vs0, d0, ds0, p0, q0, hargs, rfl, rfl, h0, r0⟩ := trodAll_cons hA
  obtain ⟨rfl, rfl, rfl⟩ := trodAll_nil r0
  obtain rfl : args = #[v0] := by cases args; simp_all
  obtain ⟨rfl, rfl⟩ := trodVars_none hV
  obtain ⟨A0, c0, x0, rfl, hc0, hm0, k0, ks0, kd0⟩ := open_texts Try.underlying28 Try.underlying9 (by kernel_rfl) (hval 0 28 v0 rfl rfl) h0
  clear hA0
  have hbulk := bulk_bound hk
  simp only [List.cons_append, List.nil_append, List.append_nil, Rows.uptoBulkAll] at hbulk
  have hwt := weight_le_bulk kd0
  refine (RecPacks_any A0 c0 x0 W k0 (by omega)).mono ?_
  exact fun e W' ⟨he, hb⟩ => ⟨_, he, law_post rfl hW' rfl (by kernel_rfl) Try.underlying4 (by kernel_rfl) laidOut hb⟩

open Go.ChangeShapes Go.WideShapes Go.ChangeAt in
set_option maxRecDepth 100000 in
theorem RecPacks_lifted (os : Os) (started : os.Started) (H : Type) (enc : TypeId × Value → H) (F : Stop.Interp) :
    ReturnsInHanded {} Try.checked os 5 .any ((Rows.OpenSpec.upto Rows.recPacksSpec).pre6 enc Try.prog Try.f5 Rows.recPacksUptoRow.domain false) (((Rows.OpenSpec.upto Rows.recPacksSpec).at F).post enc Try.prog Try.f5 false true false false) := by
  refine returnsInHanded_of_cond (C := Try.checked) (s := Rows.OpenSpec.upto Rows.recPacksSpec) (k := Rows.uptoSmall) rfl own started (by kernel_rfl) Try.func5
    (OpenSpec.witness (enc := enc) (C := Try.checked) (s := Rows.OpenSpec.upto Rows.recPacksSpec) (k := Rows.uptoSmall) rfl false ⟨#[], #[.slice none 0 0], []⟩ 8 (by kernel_rfl) (by kernel_rfl) (by kernel_rfl)
      (x := ([.nil], [], [])) (by kernel_rfl) rfl (by kernel_rfl)) ?_
  intro W base args ds gs before hval hW _ hk _
  exact RecPacks_contract H enc W base args ds gs before hval hW hk

theorem RecPacks_holds : Rows.RecPacksUptoSaid :=
  OpenClaim.holds_of_cond 5 Try.f5 rfl rfl rfl rfl rfl rfl rfl ⟨rfl, rfl, rfl, rfl, rfl⟩ rfl rfl rfl rfl rfl (by kernel_rfl) Try.func5 (by kernel_rfl)
    (of_decide_eq_true (by kernel_rfl)) (by unfold Func.isWrapper; first | (rw [if_pos (by decide +kernel)]; kernel_rfl) | (rw [if_neg (by decide +kernel)]; exact ⟨rfl, rfl⟩))
    (fun os started H enc _ F => RecPacks_lifted os started H enc F)

end Go.Proofs.Ytfddhhaecfjepaa
