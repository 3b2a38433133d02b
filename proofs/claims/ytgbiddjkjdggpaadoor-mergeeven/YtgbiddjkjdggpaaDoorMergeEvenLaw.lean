/- hawserlaw17.MergeEven: the long texts, the frame of the card. -/
import Derived.Test.YtgbiddjkjdggpaaDoorMergeEven
import Derived.Test.YtgbiddjkjdggpaaDoorCellMax
import Derived.Test.YtgbiddjkjdggpaaDoorCard
namespace Go.Proofs.YtgbiddjkjdggpaaDoor
open Go.RowKit Plain

set_option maxHeartbeats 2000000 in
theorem MergeEven_any (o a b : List UInt8) (m : Int) (w : World) (ho : o.length ≤ 9223372036854775807) (ha : a.length ≤ 9223372036854775807) (hb : b.length ≤ 9223372036854775807) (hm : w.cell? ⟨0, 0, none⟩ = some (.int .i64 m)) :
    Calls Tryd.prog 4 #[.agg #[.string ⟨o.toArray⟩, .string ⟨a.toArray⟩, .string ⟨b.toArray⟩]] w (Ret w (.bool true)) := by
  by_cases h1 : o.length ≤ 3000 ∧ a.length ≤ 3000 ∧ b.length ≤ 3000
  · exact MergeEven_main o a b m w h1.1 h1.2.1 h1.2.2 hm
  have hmlt := World.block_lt_of_cell? _ _ hm
  have hB0 : Below w.heap.size w (w.alloc (.cells #[.string ⟨o.toArray⟩, .string ⟨a.toArray⟩, .string ⟨b.toArray⟩] 23)) := (Below.refl _ _).alloc (Nat.le_refl _) _
  have hm0 := (hB0.cell (p := ⟨0, 0, none⟩) hmlt).trans hm
  have HAW := Lib.hid (awake_any m _ hm0)
  clear hm hm0
  by_cases e1 : 3000 < o.length
  · have d1 : decide ((3000 : Int) < o.length) = true := by simp; omega
    go_enter Tryd.func4, Tryd.ntmps4
    go_wp2_with (fail)
    refine HAW.out.mono ?_
    rintro e w1 ⟨rfl, hw1⟩
    have c0 := (hw1.cell (p := ⟨w.heap.size, 0, none⟩) (show w.heap.size < _ by simp)).trans (cell_of_row _ _ _ _ _ (0, 0) (heap_alloc_new w _))
    simp only [List.getElem?_toArray, List.getElem?_cons_zero, List.getElem?_cons_succ] at c0
    have hB1 := hB0.trans (hw1.mono hB0.size)
    clear h1
    go_wp2_with (fail)
    go_ret
    exact ⟨rfl, hB1⟩
  · have d1 : decide ((3000 : Int) < o.length) = false := by simp; omega
    by_cases e2 : 3000 < a.length
    · have d2 : decide ((3000 : Int) < a.length) = true := by simp; omega
      go_enter Tryd.func4, Tryd.ntmps4
      go_wp2_with (fail)
      refine HAW.out.mono ?_
      rintro e w1 ⟨rfl, hw1⟩
      have c0 := (hw1.cell (p := ⟨w.heap.size, 0, none⟩) (show w.heap.size < _ by simp)).trans (cell_of_row _ _ _ _ _ (0, 0) (heap_alloc_new w _))
      have c1 := (hw1.cell (p := ⟨w.heap.size, 1, none⟩) (show w.heap.size < _ by simp)).trans (cell_of_row _ _ _ _ _ (0, 0) (heap_alloc_new w _))
      simp only [List.getElem?_toArray, List.getElem?_cons_zero, List.getElem?_cons_succ] at c0 c1
      have hB1 := hB0.trans (hw1.mono hB0.size)
      clear h1
      go_wp2_with (fail)
      go_ret
      exact ⟨rfl, hB1⟩
    · have d2 : decide ((3000 : Int) < a.length) = false := by simp; omega
      have d3 : decide ((3000 : Int) < b.length) = true := by simp; omega
      go_enter Tryd.func4, Tryd.ntmps4
      go_wp2_with (fail)
      refine HAW.out.mono ?_
      rintro e w1 ⟨rfl, hw1⟩
      have c0 := (hw1.cell (p := ⟨w.heap.size, 0, none⟩) (show w.heap.size < _ by simp)).trans (cell_of_row _ _ _ _ _ (0, 0) (heap_alloc_new w _))
      have c1 := (hw1.cell (p := ⟨w.heap.size, 1, none⟩) (show w.heap.size < _ by simp)).trans (cell_of_row _ _ _ _ _ (0, 0) (heap_alloc_new w _))
      have c2 := (hw1.cell (p := ⟨w.heap.size, 2, none⟩) (show w.heap.size < _ by simp)).trans (cell_of_row _ _ _ _ _ (0, 0) (heap_alloc_new w _))
      simp only [List.getElem?_toArray, List.getElem?_cons_zero, List.getElem?_cons_succ] at c0 c1 c2
      have hB1 := hB0.trans (hw1.mono hB0.size)
      clear h1
      go_wp2_with (fail)
      go_ret
      exact ⟨rfl, hB1⟩


open Go.ChangeShapes Go.WideShapes Go.ChangeAt in
/-- What the walk gives, for every argument. -/
theorem MergeEven_contract (H : Type) (enc : TypeId × Value → H) (W : World) (base : Nat) (args : Array Value) (ds gs : List (DataW H)) (before : List MemPlace)
    (hval : ∀ (j : Nat) t v, Tryd.f4.params[j]? = some t → args[j]? = some v → Value.okWide Tryd.prog W .any base t v)
    (hW : DataW.Whole enc Tryd.prog Tryd.f4.params.toList Rows.mergeEvenSpec.vars false W args.toList ds gs before) (hL : laidMetH Tryd.prog Rows.mergeEvenRow.laid W) (hS : W.ShapedOpen Tryd.prog) :
    Calls Tryd.prog 4 args W fun e W' => ∃ v, e = .returned v ∧ Rows.mergeEvenSpec.post enc Tryd.prog Tryd.f4 false true false false W args v W' := by
  have hW' := hW
  obtain ⟨p, q, hA0, hV, rfl, hfz, hnd⟩ := hW
  have hA : DataW.TrodAll enc Tryd.prog W 0 (fun _ => true) true Tryd.f4.params.toList args.toList ds p := hA0
  rw [Tryd.params4] at hA hval
  obtain ⟨v0, vs0, d0, ds0, p0, q0, hargs, rfl, rfl, h0, r0⟩ := trodAll_cons hA
  obtain ⟨rfl, rfl, rfl⟩ := trodAll_nil r0
  obtain rfl : args = #[v0] := by cases args; simp_all
  obtain ⟨rfl, rfl⟩ := trodVars_none hV
  obtain ⟨xa0, xb0, xc0, ya0, yb0, yc0, fu0, rfl, rfl, rfl, ha0, hb0, hc0⟩ := Go.Joins.open_agg3 Tryd.underlying23 (by kernel_rfl) (by kernel_rfl) (hval 0 23 v0 rfl rfl) h0
  obtain ⟨a0, ea0, rfl, ka0⟩ := trod_str Tryd.underlying9 ha0
  obtain ⟨b0, eb0, rfl, kb0⟩ := trod_str Tryd.underlying9 hb0
  obtain ⟨c0, ec0, rfl, kc0⟩ := trod_str Tryd.underlying9 hc0
  subst ea0 eb0 ec0
  clear hA0
  obtain ⟨m, hm⟩ := cell_maxLen hS
  refine (MergeEven_any _ _ _ m W (by unfold maxLen at *; omega) (by unfold maxLen at *; omega) (by unfold maxLen at *; omega) hm).mono ?_
  exact fun e W' ⟨he, hb⟩ => ⟨_, he, law_post rfl hW' rfl (by kernel_rfl) Tryd.underlying4 (by kernel_rfl) laidOut hb⟩

open Go.ChangeShapes Go.WideShapes Go.ChangeAt in
theorem MergeEven_met (os : Os) : laidMet Tryd.prog Rows.mergeEvenRow.laid ((laidWorld os).forCall (fun _ _ => 0) ⟨#[], #[.agg #[.string ⟨#[]⟩, .string ⟨#[]⟩, .string ⟨#[]⟩]], []⟩).memory :=
  laidMet_of_run' 8 (by kernel_rfl) (by kernel_rfl)
open Go.ChangeShapes Go.WideShapes Go.ChangeAt in
theorem MergeEven_reads (os : Os) {H : Type} (enc : TypeId × Value → H) : ∃ places, DataW.whole enc Tryd.prog ((laidWorld os).forCall (fun _ _ => 0) ⟨#[], #[.agg #[.string ⟨#[]⟩, .string ⟨#[]⟩, .string ⟨#[]⟩]], []⟩).memory Tryd.f4.params.toList Rows.mergeEvenSpec.vars false #[.agg #[.string ⟨#[]⟩, .string ⟨#[]⟩, .string ⟨#[]⟩]].toList 8 = some ([.agg [.lit (.string []), .lit (.string []), .lit (.string [])]], [], places) :=
  ⟨[], by kernel_rfl⟩

open Go.ChangeShapes Go.WideShapes Go.ChangeAt in
set_option maxRecDepth 100000 in
theorem MergeEven_lifted (os : Os) (started : os.Started) (H : Type) (enc : TypeId × Value → H) (F : Stop.Interp) :
    ReturnsInHanded {} Tryd.checked os 4 .any ((OpenSpec.ofChange Rows.mergeEvenSpec).preRow enc Tryd.prog Tryd.f4 Rows.mergeEvenRow.domain false Rows.mergeEvenRow.laid) (((OpenSpec.ofChange Rows.mergeEvenSpec).at F).post enc Tryd.prog Tryd.f4 false true false false) := by
  obtain ⟨places, hx⟩ := MergeEven_reads os enc
  refine returnsInHanded_of_row (C := Tryd.checked) (s := OpenSpec.ofChange Rows.mergeEvenSpec) own started (by kernel_rfl) Tryd.func4
    (witness_row_at (enc := enc) (C := Tryd.checked) false (laidWorld os) #[.agg #[.string ⟨#[]⟩, .string ⟨#[]⟩, .string ⟨#[]⟩]] rfl (by kernel_rfl) (by kernel_rfl) (by kernel_rfl)
      (OpenSpec.preRow_of_cond 8 hx (by kernel_rfl) (fun k hk => by cases hk) (by kernel_rfl) (MergeEven_met os))) ?_
  intro W base args ds gs before hval hW _ hcond _ hL hS _
  exact MergeEven_contract H enc W base args ds gs before hval hW hL hS

theorem MergeEven_said : Rows.MergeEvenSaid :=
  OpenClaim.holds_of_cond 4 Tryd.f4 rfl rfl rfl rfl rfl rfl rfl ⟨rfl, rfl, rfl, rfl, rfl⟩ rfl rfl rfl rfl rfl (by kernel_rfl) Tryd.func4 (by kernel_rfl)
    (of_decide_eq_true (by kernel_rfl)) (by unfold Func.isWrapper; first | (rw [if_pos (by decide +kernel)]; kernel_rfl) | (rw [if_neg (by decide +kernel)]; exact ⟨rfl, rfl⟩))
    (fun os started H enc _ F => by rw [OpenClaim.pre_eq_preRow]; exact MergeEven_lifted os started H enc F)

theorem MergeEven_holds : Rows.MergeEvenCardSaid :=
  Claim7.holds_tied_plain_at .later [] _ _ _ _ MergeEven_said (fun _ h => by cases h) (by kernel_rfl) (fun _ h => by cases h) mergeEven_row_tie rfl ⟨rfl, rfl⟩ (by kernel_rfl) rfl
    (card_plain (f0 := 4) (fn0 := Tryd.f4) (by kernel_rfl) Tryd.func4 (by kernel_rfl) (by kernel_rfl)) (by kernel_rfl)
end Go.Proofs.YtgbiddjkjdggpaaDoor
