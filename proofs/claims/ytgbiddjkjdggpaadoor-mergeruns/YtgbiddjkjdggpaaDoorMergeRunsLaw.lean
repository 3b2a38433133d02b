/- hawserlaw17.MergeRuns: what whatever program makes of three texts is the document's. -/
import Derived.Test.YtgbiddjkjdggpaaDoorMergeRuns
namespace Go.Proofs.YtgbiddjkjdggpaaDoor
open Go.RowKit Plain

theorem MergeRuns_main (p o a b : List UInt8) (m : Int) (w : World) (ho : o.length ≤ 3000) (ha : a.length ≤ 3000) (hb : b.length ≤ 3000) (hm : w.cell? ⟨0, 0, none⟩ = some (.int .i64 m)) :
    Calls Tryd.prog 3 #[.string ⟨p.toArray⟩, .agg #[.string ⟨o.toArray⟩, .string ⟨a.toArray⟩, .string ⟨b.toArray⟩]] w (Ret w (.bool true)) := by
  by_cases h0 : p = [97]
  · subst h0
    exact MergeRuns_core [97] o a b (a, 0) true m w ho ha hb hm (fun W _ => Run_a o a b W (by omega)) (fun W => RRun_a o a b W (by omega)) (by decide) (fun h => by cases h)
  by_cases h1 : p = [98]
  · subst h1
    exact MergeRuns_core [98] o a b (b, 0) true m w ho ha hb hm (fun W _ => Run_b o a b W (by omega)) (fun W => RRun_b o a b W (by omega)) (by decide) (fun h => by cases h)
  by_cases h2 : p = [117, 110, 105, 111, 110]
  · subst h2
    exact MergeRuns_core _ o a b (finM (unionM a b, true)) true m w ho ha hb hm (fun W h => Run_union o a b m W (by omega) (by omega) h) (fun W => RRun_union o a b W (by omega) (by omega) (by omega)) (by decide) (fun h => by cases h)
  by_cases h3 : p = [108, 105, 110, 101, 115]
  · subst h3
    exact MergeRuns_core _ o a b (finM (linesM o a b)) true m w ho ha hb hm (fun W h => Run_lines o a b m W (by omega) (by omega) (by omega) h) (fun W => RRun_lines o a b W (by omega) (by omega) (by omega)) (by decide) (fun h => by cases h)
  by_cases h4 : p = [108, 111, 110, 103, 101, 114]
  · subst h4
    have hl : (longerM a b).length ≤ 65536 := by unfold longerM; split <;> omega
    exact MergeRuns_core _ o a b (longerM a b, 0) true m w ho ha hb hm (fun W _ => Run_longer o a b W hl) (fun W => RRun_longer o a b W (by omega) (by omega)) (by decide) (fun h => by cases h)
  have hk : knownM p = false := by
    unfold knownM
    simp [h0, h1, h2, h3, h4]
  exact MergeRuns_core p o a b ([], 170) false m w ho ha hb hm (fun W _ => Run_other p o a b W h0 h1 h2 h3 h4) (fun W => RRun_other p o a b W h0 h1 h2 h3 h4) hk (fun _ => rfl)

set_option maxHeartbeats 2000000 in
theorem MergeRuns_any (p o a b : List UInt8) (m : Int) (w : World) (ho : o.length ≤ 9223372036854775807) (ha : a.length ≤ 9223372036854775807) (hb : b.length ≤ 9223372036854775807) (hm : w.cell? ⟨0, 0, none⟩ = some (.int .i64 m)) :
    Calls Tryd.prog 3 #[.string ⟨p.toArray⟩, .agg #[.string ⟨o.toArray⟩, .string ⟨a.toArray⟩, .string ⟨b.toArray⟩]] w (Ret w (.bool true)) := by
  by_cases h1 : o.length ≤ 3000 ∧ a.length ≤ 3000 ∧ b.length ≤ 3000
  · exact MergeRuns_main p o a b m w h1.1 h1.2.1 h1.2.2 hm
  have hmlt := World.block_lt_of_cell? _ _ hm
  have hB0 : Below w.heap.size w (w.alloc (.cells #[.string ⟨o.toArray⟩, .string ⟨a.toArray⟩, .string ⟨b.toArray⟩] 23)) := (Below.refl _ _).alloc (Nat.le_refl _) _
  have hm0 := (hB0.cell (p := ⟨0, 0, none⟩) hmlt).trans hm
  have HAW := Lib.hid (awake_any m _ hm0)
  have HB0 := Lib.hid hB0
  clear hm hm0
  obtain ⟨e1, d1⟩ : ∃ e, decide ((3000 : Int) < o.length) = e := ⟨_, rfl⟩
  obtain ⟨e2, d2⟩ : ∃ e, decide ((3000 : Int) < a.length) = e := ⟨_, rfl⟩
  obtain ⟨e3, d3⟩ : ∃ e, decide ((3000 : Int) < b.length) = e := ⟨_, rfl⟩
  have hne : e1 = true ∨ e2 = true ∨ e3 = true := by
    subst d1 d2 d3
    simp only [decide_eq_true_eq]
    omega
  have HNE := Lib.hid hne
  clear h1 hne
  cases e1 with
  | true =>
    go_enter Tryd.func3, Tryd.ntmps3
    go_wp2_with (fail)
    refine HAW.out.mono ?_
    rintro e w1 ⟨rfl, hw1⟩
    have c0 := (hw1.cell (p := ⟨w.heap.size, 0, none⟩) (show w.heap.size < _ by simp)).trans (cell_of_row _ _ _ _ _ (0, 0) (heap_alloc_new w _))
    have c1 := (hw1.cell (p := ⟨w.heap.size, 1, none⟩) (show w.heap.size < _ by simp)).trans (cell_of_row _ _ _ _ _ (0, 0) (heap_alloc_new w _))
    have c2 := (hw1.cell (p := ⟨w.heap.size, 2, none⟩) (show w.heap.size < _ by simp)).trans (cell_of_row _ _ _ _ _ (0, 0) (heap_alloc_new w _))
    simp only [List.getElem?_toArray, List.getElem?_cons_zero, List.getElem?_cons_succ] at c0 c1 c2
    go_wp2_with (fail)
    go_ret
    exact ⟨rfl, HB0.out.trans (hw1.mono HB0.out.size)⟩
  | false =>
    cases e2 with
    | true =>
      go_enter Tryd.func3, Tryd.ntmps3
      go_wp2_with (fail)
      refine HAW.out.mono ?_
      rintro e w1 ⟨rfl, hw1⟩
      have c0 := (hw1.cell (p := ⟨w.heap.size, 0, none⟩) (show w.heap.size < _ by simp)).trans (cell_of_row _ _ _ _ _ (0, 0) (heap_alloc_new w _))
      have c1 := (hw1.cell (p := ⟨w.heap.size, 1, none⟩) (show w.heap.size < _ by simp)).trans (cell_of_row _ _ _ _ _ (0, 0) (heap_alloc_new w _))
      have c2 := (hw1.cell (p := ⟨w.heap.size, 2, none⟩) (show w.heap.size < _ by simp)).trans (cell_of_row _ _ _ _ _ (0, 0) (heap_alloc_new w _))
      simp only [List.getElem?_toArray, List.getElem?_cons_zero, List.getElem?_cons_succ] at c0 c1 c2
      go_wp2_with (fail)
      go_ret
      exact ⟨rfl, HB0.out.trans (hw1.mono HB0.out.size)⟩
    | false =>
      have h3 : e3 = true := by
        rcases HNE.out with h | h | h
        · cases h
        · cases h
        · exact h
      subst h3
      go_enter Tryd.func3, Tryd.ntmps3
      go_wp2_with (fail)
      refine HAW.out.mono ?_
      rintro e w1 ⟨rfl, hw1⟩
      have c0 := (hw1.cell (p := ⟨w.heap.size, 0, none⟩) (show w.heap.size < _ by simp)).trans (cell_of_row _ _ _ _ _ (0, 0) (heap_alloc_new w _))
      have c1 := (hw1.cell (p := ⟨w.heap.size, 1, none⟩) (show w.heap.size < _ by simp)).trans (cell_of_row _ _ _ _ _ (0, 0) (heap_alloc_new w _))
      have c2 := (hw1.cell (p := ⟨w.heap.size, 2, none⟩) (show w.heap.size < _ by simp)).trans (cell_of_row _ _ _ _ _ (0, 0) (heap_alloc_new w _))
      simp only [List.getElem?_toArray, List.getElem?_cons_zero, List.getElem?_cons_succ] at c0 c1 c2
      go_wp2_with (fail)
      go_ret
      exact ⟨rfl, HB0.out.trans (hw1.mono HB0.out.size)⟩

open Go.ChangeShapes Go.WideShapes Go.ChangeAt in
/-- What the walk gives, for every argument. -/
theorem MergeRuns_contract (H : Type) (enc : TypeId × Value → H) (W : World) (base : Nat) (args : Array Value) (ds gs : List (DataW H)) (before : List MemPlace)
    (hval : ∀ (j : Nat) t v, Tryd.f3.params[j]? = some t → args[j]? = some v → Value.okWide Tryd.prog W .any base t v)
    (hW : DataW.Whole enc Tryd.prog Tryd.f3.params.toList Rows.mergeRunsSpec.vars false W args.toList ds gs before) (hL : laidMetH Tryd.prog Rows.mergeRunsRow.laid W) (hS : W.ShapedOpen Tryd.prog) :
    Calls Tryd.prog 3 args W fun e W' => ∃ v, e = .returned v ∧ Rows.mergeRunsSpec.post enc Tryd.prog Tryd.f3 false true false false W args v W' := by
  have hW' := hW
  obtain ⟨p, q, hA0, hV, rfl, hfz, hnd⟩ := hW
  have hA : DataW.TrodAll enc Tryd.prog W 0 (fun _ => true) true Tryd.f3.params.toList args.toList ds p := hA0
  rw [Tryd.params3] at hA hval
  obtain ⟨v0, vs0, d0, ds0, p0, q0, hargs, rfl, rfl, h0, r0⟩ := trodAll_cons hA
  obtain ⟨v1, vs1, d1, ds1, p1, q1, rfl, rfl, rfl, h1, r1⟩ := trodAll_cons r0
  obtain ⟨rfl, rfl, rfl⟩ := trodAll_nil r1
  obtain rfl : args = #[v0, v1] := by cases args; simp_all
  obtain ⟨rfl, rfl⟩ := trodVars_none hV
  obtain ⟨x0, rfl, rfl, rfl, k0⟩ := ChangeMaps.open_string Tryd.underlying9 (hval 0 9 v0 rfl rfl) h0
  have k0 : x0.data.toList.length ≤ 9223372036854775807 := by unfold maxLen at k0; simpa using k0
  obtain ⟨xa1, xb1, xc1, ya1, yb1, yc1, fu1, rfl, rfl, rfl, ha1, hb1, hc1⟩ := Go.Joins.open_agg3 Tryd.underlying23 (by kernel_rfl) (by kernel_rfl) (hval 1 23 v1 rfl rfl) h1
  obtain ⟨a1, ea1, rfl, ka1⟩ := trod_str Tryd.underlying9 ha1
  obtain ⟨b1, eb1, rfl, kb1⟩ := trod_str Tryd.underlying9 hb1
  obtain ⟨c1, ec1, rfl, kc1⟩ := trod_str Tryd.underlying9 hc1
  subst ea1 eb1 ec1
  clear hA0
  obtain ⟨m, hm⟩ := cell_maxLen hS
  refine (MergeRuns_any _ _ _ _ m W (by unfold maxLen at *; omega) (by unfold maxLen at *; omega) (by unfold maxLen at *; omega) hm).mono ?_
  exact fun e W' ⟨he, hb⟩ => ⟨_, he, law_post rfl hW' rfl (by kernel_rfl) Tryd.underlying4 (by kernel_rfl) laidOut hb⟩

open Go.ChangeShapes Go.WideShapes Go.ChangeAt in
theorem MergeRuns_met (os : Os) : laidMet Tryd.prog Rows.mergeRunsRow.laid ((laidWorld os).forCall (fun _ _ => 0) ⟨#[], #[.string ⟨#[]⟩, .agg #[.string ⟨#[]⟩, .string ⟨#[]⟩, .string ⟨#[]⟩]], []⟩).memory :=
  laidMet_of_run' 8 (by kernel_rfl) (by kernel_rfl)
open Go.ChangeShapes Go.WideShapes Go.ChangeAt in
theorem MergeRuns_reads (os : Os) {H : Type} (enc : TypeId × Value → H) : ∃ places, DataW.whole enc Tryd.prog ((laidWorld os).forCall (fun _ _ => 0) ⟨#[], #[.string ⟨#[]⟩, .agg #[.string ⟨#[]⟩, .string ⟨#[]⟩, .string ⟨#[]⟩]], []⟩).memory Tryd.f3.params.toList Rows.mergeRunsSpec.vars false #[.string ⟨#[]⟩, .agg #[.string ⟨#[]⟩, .string ⟨#[]⟩, .string ⟨#[]⟩]].toList 8 = some ([.lit (.string []), .agg [.lit (.string []), .lit (.string []), .lit (.string [])]], [], places) :=
  ⟨[], by kernel_rfl⟩

open Go.ChangeShapes Go.WideShapes Go.ChangeAt in
set_option maxRecDepth 100000 in
theorem MergeRuns_lifted (os : Os) (started : os.Started) (H : Type) (enc : TypeId × Value → H) (F : Stop.Interp) :
    ReturnsInHanded {} Tryd.checked os 3 .any ((OpenSpec.ofChange Rows.mergeRunsSpec).preRow enc Tryd.prog Tryd.f3 Rows.mergeRunsRow.domain false Rows.mergeRunsRow.laid) (((OpenSpec.ofChange Rows.mergeRunsSpec).at F).post enc Tryd.prog Tryd.f3 false true false false) := by
  obtain ⟨places, hx⟩ := MergeRuns_reads os enc
  refine returnsInHanded_of_row (C := Tryd.checked) (s := OpenSpec.ofChange Rows.mergeRunsSpec) own started (by kernel_rfl) Tryd.func3
    (witness_row_at (enc := enc) (C := Tryd.checked) false (laidWorld os) #[.string ⟨#[]⟩, .agg #[.string ⟨#[]⟩, .string ⟨#[]⟩, .string ⟨#[]⟩]] rfl (by kernel_rfl) (by kernel_rfl) (by kernel_rfl)
      (OpenSpec.preRow_of_cond 8 hx (by kernel_rfl) (fun k hk => by cases hk) (by kernel_rfl) (MergeRuns_met os))) ?_
  intro W base args ds gs before hval hW _ hcond _ hL hS _
  exact MergeRuns_contract H enc W base args ds gs before hval hW hL hS

theorem MergeRuns_said : Rows.MergeRunsSaid :=
  OpenClaim.holds_of_cond 3 Tryd.f3 rfl rfl rfl rfl rfl rfl rfl ⟨rfl, rfl, rfl, rfl, rfl⟩ rfl rfl rfl rfl rfl (by kernel_rfl) Tryd.func3 (by kernel_rfl)
    (of_decide_eq_true (by kernel_rfl)) (by unfold Func.isWrapper; first | (rw [if_pos (by decide +kernel)]; kernel_rfl) | (rw [if_neg (by decide +kernel)]; exact ⟨rfl, rfl⟩))
    (fun os started H enc _ F => by rw [OpenClaim.pre_eq_preRow]; exact MergeRuns_lifted os started H enc F)

theorem MergeRuns_holds : Rows.MergeRunsCardSaid :=
  Claim7.holds_tied_plain_at .later [] _ _ _ _ MergeRuns_said (fun _ h => by cases h) (by kernel_rfl) (fun _ h => by cases h) mergeRuns_row_tie rfl ⟨rfl, rfl⟩ (by kernel_rfl) rfl
    (card_plain (f0 := 3) (fn0 := Tryd.f3) (by kernel_rfl) Tryd.func3 (by kernel_rfl) (by kernel_rfl)) (by kernel_rfl)
end Go.Proofs.YtgbiddjkjdggpaaDoor
