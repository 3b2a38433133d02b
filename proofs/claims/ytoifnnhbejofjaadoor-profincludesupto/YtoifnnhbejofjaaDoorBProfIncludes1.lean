/- hawserlaw08.ProfIncludes: to include a text is to say its lines there. The condition: the arguments' bulk (Upto). -/
import Derived.Test.YtoifnnhbejofjaaDoorBProfBaseA9
set_option linter.unusedSimpArgs false
set_option linter.unusedVariables false

section
set_option linter.unusedVariables false
namespace Go.Proofs.YtoifnnhbejofjaaDoor
open Go.RowKit Plain

theorem parse_err {T : List Txt} {n : List UInt8} (h : (parseP T n).2.2 ≠ 0) : (parseP T n).1 = PF0 := by
  unfold parseP at *
  cases hf : findT T n with
  | none => rw [hf] at h; first | done | rfl
  | some i =>
    rw [hf] at h
    simp only at h ⊢
    cases hr : readP T 8 [] n PF0 with
    | ok q => rw [hr] at h; exact absurd rfl h
    | error e => rfl

set_option maxHeartbeats 8000000 in
set_option maxRecDepth 100000 in
theorem ProfIncludes_any (a i b : List UInt8) (m : Int) (w : World) (hL : LaidP w m) (hla : a.length ≤ 1048576) (hli : i.length ≤ 1048576) (hlb : b.length ≤ 1048576) :
    Calls Tryd.prog 4 #[.string ⟨a.toArray⟩, .string ⟨i.toArray⟩, .string ⟨b.toArray⟩] w (Ret w (.bool true)) := by
  have HAW := Lib.hid (pawake_any m w hL)
  have HLD := Lib.hid (fun W (h : Below w.heap.size w W) => hL.below h)
  clear hL
  have w1 : IntKind.i64.wrap ((a.length : Int) + i.length) = (a.length : Int) + i.length := IntWalk.i64_in _ (by omega)
  have w2 : IntKind.i64.wrap ((a.length : Int) + i.length + b.length) = (a.length : Int) + i.length + b.length := IntWalk.i64_in _ (by omega)
  by_cases hs : a.length + i.length + b.length > 9000
  · have g : (9000 : Int) < (a.length : Int) + i.length + b.length := by omega
    clear HLD hs
    go_enter Tryd.func4, Tryd.ntmps4
    go_wp2_with (fail)
    refine HAW.out.mono ?_
    rintro e w1 ⟨rfl, hw1⟩
    have HB1 := Lib.hid hw1
    clear hw1
    go_wp2_with (fail)
    go_ret
    exact ⟨rfl, HB1.out⟩
  · have g : ¬ (9000 : Int) < (a.length : Int) + i.length + b.length := by omega
    have hs' : a.length + i.length + b.length ≤ 9000 := by omega
    obtain ⟨T1, hT1⟩ : ∃ T : List Txt, [⟨nx, a ++ 10 :: 105 :: 110 :: 99 :: 108 :: 117 :: 100 :: 101 :: 32 :: 121 :: 10 :: b⟩, ⟨ny, i⟩] = T := ⟨_, rfl⟩
    obtain ⟨T2, hT2⟩ : ∃ T : List Txt, [⟨nx, a ++ 10 :: (i ++ 10 :: b)⟩] = T := ⟨_, rfl⟩
    have hlaw : (parseP T2 nx).2.2 = 0 → parseP T1 nx = parseP T2 nx := fun h => by
      have e2 : a ++ [10] ++ i ++ [10] ++ b = a ++ 10 :: (i ++ 10 :: b) := by simp
      have e1 : a ++ 10 :: incL ++ [10] ++ b = a ++ 10 :: 105 :: 110 :: 99 :: 108 :: 117 :: 100 :: 101 :: 32 :: 121 :: 10 :: b := by simp [incL, wInclude]
      have := includes_law a i b hs' (by rw [e2, hT2]; exact h)
      rw [e1, e2, hT1, hT2] at this
      exact this
    have HER := Lib.hid (fun h => parse_err (T := T2) (n := nx) h)
    have HP1 := Lib.hid (fun (W : World) (A : Option Addr) (hW : Below w.heap.size w W) (hR : IsRows W 2 A (T1.map txtV)) => parse_any T1 A 2 nx m W (HLD.out W hW) hR (by rw [← hT1]; simp) (by
      intro x hx
      rw [← hT1] at hx
      simp only [List.mem_cons, List.not_mem_nil, or_false] at hx
      rcases hx with rfl | rfl
      · simp; omega
      · show i.length ≤ _; omega))
    have HP2 := Lib.hid (fun (W : World) (A : Option Addr) (hW : Below w.heap.size w W) (hR : IsRows W 2 A (T2.map txtV)) => parse_any T2 A 1 nx m W (HLD.out W hW) hR (by rw [← hT2]; simp) (by
      intro x hx
      rw [← hT2] at hx
      simp only [List.mem_cons, List.not_mem_nil, or_false] at hx
      subst hx
      simp; omega))
    have e1 : T1.length = 2 := by rw [← hT1]; rfl
    have e2 : T2.length = 1 := by rw [← hT2]; rfl
    rw [e1] at HP1
    rw [e2] at HP2
    have HT1 := Lib.hid hT1
    have HT2 := Lib.hid hT2
    generalize parseP T1 nx = r1 at *
    generalize parseP T2 nx = r2 at *
    obtain ⟨q1, tq1, k1⟩ := r1
    obtain ⟨q2, tq2, k2⟩ := r2
    simp only at hlaw HER
    have HLAW := Lib.hid hlaw
    clear hs hT1 hT2 hlaw e1 e2 HLD
    go_enter Tryd.func4, Tryd.ntmps4
    go_wp2_with (fail)
    refine HAW.out.mono ?_
    rintro e w1 ⟨rfl, hw1⟩
    have HB1 := Lib.hid hw1
    clear hw1
    obtain ⟨W1, hW1⟩ : ∃ W1, w1.alloc (.cells #[.string ⟨#[120]⟩, .string ⟨(a ++ 10 :: 105 :: 110 :: 99 :: 108 :: 117 :: 100 :: 101 :: 32 :: 121 :: 10 :: b).toArray⟩, .string ⟨#[121]⟩, .string ⟨i.toArray⟩] 29) = W1 := ⟨_, rfl⟩
    have hBW1 : Below w1.heap.size w1 W1 := by rw [← hW1]; exact (Below.refl _ _).alloc (Nat.le_refl _) _
    have hR1 : IsRows W1 2 (some ⟨w1.heap.size, 0, none⟩) (T1.map txtV) := rows_heap txtV_length T1 (t := 29) (fr := (0, 0)) (by rw [← hW1, ← HT1.out]; exact heap_alloc_new _ _)
    have HBW := Lib.hid (HB1.out.trans (hBW1.mono HB1.out.size))
    have HPA := Lib.hid (show Calls Tryd.prog 7 #[.slice (some ⟨w1.heap.size, 0, none⟩) 2 2, .string ⟨#[120]⟩] W1 (ParseOut W1 (q1, tq1, k1)) from HP1.out W1 _ HBW.out hR1)
    have HW1 := Lib.hid hW1
    clear hW1 hBW1 hR1
    go_wp2_with (fail)
    rw [HW1.out]
    refine HPA.out.mono ?_
    rintro e w3 ⟨A0, c0, A1, c1, A2, c2, rfl, hp, hb⟩
    unfold pfV txtV
    dsimp only at hp ⊢
    obtain ⟨W3, hW3, hb3, hq1, hq2, hsz3⟩ := two_new (w2 := w3) (C0 := A0) (C1 := A1) (C2 := A2) (e0 := c0) (e1 := c1) (e2 := c2) (q := q1) (tq := tq1)
    have HW3 := Lib.hid hW3
    have HB3 := Lib.hid (HBW.out.trans ((hb.trans (hb3.mono hb.size)).mono HBW.out.size))
    have HQ3 := Lib.hid (hp.below hb3)
    have HQ1 := Lib.hid hq1
    have HS3 := Lib.hid hsz3
    clear hsz3 hW3 hb3 hq1 hq2 hb hp HPA HW1 HB1 HBW HT1
    go_upto_region 6 with (fail)
    rw [HW3.out]
    clear HW3
    obtain ⟨W4, hW4⟩ : ∃ W4, W3.alloc (.cells #[.string ⟨#[120]⟩, .string ⟨(a ++ 10 :: (i ++ 10 :: b)).toArray⟩] 29) = W4 := ⟨_, rfl⟩
    have hBW4 : Below W3.heap.size W3 W4 := by rw [← hW4]; exact (Below.refl _ _).alloc (Nat.le_refl _) _
    have hR4 : IsRows W4 2 (some ⟨W3.heap.size, 0, none⟩) (T2.map txtV) := rows_heap txtV_length T2 (t := 29) (fr := (0, 0)) (by rw [← hW4, ← HT2.out]; exact heap_alloc_new _ _)
    have HBW := Lib.hid (HB3.out.trans (hBW4.mono HB3.out.size))
    have HPA := Lib.hid (show Calls Tryd.prog 7 #[.slice (some ⟨W3.heap.size, 0, none⟩) 1 1, .string ⟨#[120]⟩] W4 (ParseOut W4 (q2, tq2, k2)) from HP2.out W4 _ HBW.out hR4)
    have HW4 := Lib.hid hW4
    have HBB := Lib.hid hBW4
    clear hW4 hBW4 hR4
    go_wp2_with (fail)
    rw [HW4.out]
    refine HPA.out.mono ?_
    rintro e w5 ⟨B0, d0, B1, d1, B2, d2, rfl, hp5, hb5⟩
    unfold pfV txtV
    dsimp only at hp5 ⊢
    obtain ⟨W5, hW5, hb5', hq3, hq4, hsz5⟩ := two_new (w2 := w5) (C0 := B0) (C1 := B1) (C2 := B2) (e0 := d0) (e1 := d1) (e2 := d2) (q := q2) (tq := tq2)
    have hb45 := hb5.trans (hb5'.mono hb5.size)
    have hb35 := HBB.out.trans (hb45.mono HBB.out.size)
    have HW5 := Lib.hid hW5
    have HB5 := Lib.hid (HBW.out.trans (hb45.mono HBW.out.size))
    have HP3 := Lib.hid (HQ3.out.below hb35)
    have HP5 := Lib.hid (hp5.below hb5')
    have hr1 := (hb35.block _ (by have := HS3.out; omega)).trans HQ1.out
    have p0 := cell_of_row _ _ 0 _ _ _ hr1
    have p1 := cell_of_row _ _ 1 _ _ _ hr1
    have p2 := cell_of_row _ _ 2 _ _ _ hr1
    have p3 := cell_of_row _ _ 3 _ _ _ hr1
    have p4 := cell_of_row _ _ 4 _ _ _ hr1
    have p5 := cell_of_row _ _ 5 _ _ _ hr1
    have p6 := cell_of_row _ _ 6 _ _ _ hr1
    have y0 := cell_of_row _ _ 0 _ _ _ hq3
    have y1 := cell_of_row _ _ 1 _ _ _ hq3
    have y2 := cell_of_row _ _ 2 _ _ _ hq3
    have y3 := cell_of_row _ _ 3 _ _ _ hq3
    have y4 := cell_of_row _ _ 4 _ _ _ hq3
    have y5 := cell_of_row _ _ 5 _ _ _ hq3
    have y6 := cell_of_row _ _ 6 _ _ _ hq3
    clear hsz5 hW5 hb5' hq3 hq4 hb5 hp5 hb45 hb35 hr1 HQ3 HQ1 HB3 HBW HPA HW4 HBB HT2 HP1 HP2
    go_upto_region 7 with (fail)
    rw [HW5.out]
    clear HW5
    by_cases hk2 : k2 = 0
    · subst hk2
      have he := HLAW.out rfl
      injection he with he1 he2
      injection he2 with he2 he3
      subst he1 he2 he3
      clear HLAW HER
      have HSM := Lib.hid (Same_same q1 A0 c0 A1 c1 A2 c2 B0 d0 B1 d1 B2 d2 W5 HP3.out HP5.out (by
        have h1 := HP5.out.cap
        have h2 := HP5.out.len
        unfold maxLen at h2
        omega))
      unfold pfV at HSM
      clear HP3 HP5
      go_wp2_with (fail)
      refine HSM.out.mono ?_
      rintro e w6 ⟨rfl, hw6⟩
      have HB6 := Lib.hid (HB5.out.trans (hw6.mono HB5.out.size))
      clear hw6
      go_wp2_with (fail)
      go_ret
      exact ⟨rfl, HB6.out⟩
    · obtain rfl := HER.out hk2
      have g2 : ((k2 : Int) == 0) = false := by rw [beq_eq_false_iff_ne]; omega
      have g3 : ((k2 : Int) != 0) = true := by rw [bne_iff_ne]; omega
      have HSM := Lib.hid (Same_same PF0 B0 d0 B1 d1 B2 d2 none 0 none 0 none 0 W5 HP5.out (pf0_at W5) (by decide))
      unfold pfV PF0 at HSM
      unfold PF0 at y0 y1 y2 y3 y4 y5 y6
      simp only [List.length_nil] at HSM y0 y1 y2
      clear HP3 HP5 HLAW HER hk2
      by_cases hk1 : k1 = 0
      · subst hk1
        go_wp2_with (fail)
        refine HSM.out.mono ?_
        rintro e w6 ⟨rfl, hw6⟩
        have HB6 := Lib.hid (HB5.out.trans (hw6.mono HB5.out.size))
        clear hw6
        go_wp2_with (fail)
        go_ret
        exact ⟨rfl, HB6.out⟩
      · have g1 : ((k1 : Int) == 0) = false := by rw [beq_eq_false_iff_ne]; omega
        clear hk1
        go_wp2_with (fail)
        refine HSM.out.mono ?_
        rintro e w6 ⟨rfl, hw6⟩
        have HB6 := Lib.hid (HB5.out.trans (hw6.mono HB5.out.size))
        clear hw6
        go_wp2_with (fail)
        go_ret
        exact ⟨rfl, HB6.out⟩


open Go.ChangeShapes Go.WideShapes Go.ChangeAt in
set_option maxRecDepth 100000 in
/-- What the walk gives, for every argument. -/
theorem ProfIncludes_contract (H : Type) (enc : TypeId × Value → H) (W : World) (base : Nat) (args : Array Value) (ds gs : List (DataW H)) (before : List MemPlace)
    (hval : ∀ (j : Nat) t v, Tryd.f4.params[j]? = some t → args[j]? = some v → Value.okWide Tryd.prog W .any base t v)
    (hW : DataW.Whole enc Tryd.prog Tryd.f4.params.toList Rows.profIncludesSpec.vars false W args.toList ds gs before) (hL : laidMetH Tryd.prog Rows.profIncludesRow.laid W) (hS : W.ShapedOpen Tryd.prog) (hk : Rows.uptoSmall H (ds ++ gs) = true) :
    Calls Tryd.prog 4 args W fun e W' => ∃ v, e = .returned v ∧ Rows.profIncludesSpec.post enc Tryd.prog Tryd.f4 false true false false W args v W' := by
  have hW' := hW
  obtain ⟨p, q, hA0, hV, rfl, hfz, hnd⟩ := hW
  have hA : DataW.TrodAll enc Tryd.prog W 0 (fun _ => true) true Tryd.f4.params.toList args.toList ds p := hA0
  rw [Tryd.params4] at hA hval
  obtain ⟨v0, vs0, d0, ds0, p0, q0, hargs, rfl, rfl, h0, r0⟩ := trodAll_cons hA
  obtain ⟨v1, vs1, d1, ds1, p1, q1, rfl, rfl, rfl, h1, r1⟩ := trodAll_cons r0
  obtain ⟨v2, vs2, d2, ds2, p2, q2, rfl, rfl, rfl, h2, r2⟩ := trodAll_cons r1
  obtain ⟨rfl, rfl, rfl⟩ := trodAll_nil r2
  obtain rfl : args = #[v0, v1, v2] := by cases args; simp_all
  obtain ⟨rfl, rfl⟩ := trodVars_none hV
  obtain ⟨x0, rfl, rfl, rfl, k0⟩ := ChangeMaps.open_string Tryd.underlying9 (hval 0 9 v0 rfl rfl) h0
  have k0 : x0.data.toList.length ≤ 9223372036854775807 := by unfold maxLen at k0; simpa using k0
  obtain ⟨x1, rfl, rfl, rfl, k1⟩ := ChangeMaps.open_string Tryd.underlying9 (hval 1 9 v1 rfl rfl) h1
  have k1 : x1.data.toList.length ≤ 9223372036854775807 := by unfold maxLen at k1; simpa using k1
  obtain ⟨x2, rfl, rfl, rfl, k2⟩ := ChangeMaps.open_string Tryd.underlying9 (hval 2 9 v2 rfl rfl) h2
  have k2 : x2.data.toList.length ≤ 9223372036854775807 := by unfold maxLen at k2; simpa using k2
  clear hA0
  have hbulk := bulk_bound hk
  simp only [List.cons_append, List.nil_append, List.append_nil, Rows.uptoBulkAll] at hbulk
  obtain ⟨m, hm⟩ := laid_ofP hL hS
  refine (ProfIncludes_any x0.data.toList x1.data.toList x2.data.toList m W hm (by simp only [Rows.uptoBulk] at hbulk; omega) (by simp only [Rows.uptoBulk] at hbulk; omega) (by simp only [Rows.uptoBulk] at hbulk; omega)).mono ?_
  exact fun e W' ⟨he, hb⟩ => ⟨_, he, law_post rfl hW' rfl (by kernel_rfl) Tryd.underlying4 (by kernel_rfl) laidOut hb⟩

open Go.ChangeShapes Go.WideShapes Go.ChangeAt in
theorem ProfIncludes_met (os : Os) : laidMet Tryd.prog Rows.profIncludesUptoRow.laid ((laidWorldP os).forCall (fun _ _ => 0) ⟨#[], #[.string ⟨#[]⟩, .string ⟨#[]⟩, .string ⟨#[]⟩], []⟩).memory :=
  laidMet_of_run' 8 (by kernel_rfl) (by kernel_rfl)
open Go.ChangeShapes Go.WideShapes Go.ChangeAt in
theorem ProfIncludes_reads (os : Os) {H : Type} (enc : TypeId × Value → H) : ∃ places, DataW.whole enc Tryd.prog ((laidWorldP os).forCall (fun _ _ => 0) ⟨#[], #[.string ⟨#[]⟩, .string ⟨#[]⟩, .string ⟨#[]⟩], []⟩).memory Tryd.f4.params.toList Rows.profIncludesSpec.vars false #[.string ⟨#[]⟩, .string ⟨#[]⟩, .string ⟨#[]⟩].toList 8 = some ([.lit (.string []), .lit (.string []), .lit (.string [])], [], places) :=
  ⟨[], by kernel_rfl⟩

open Go.ChangeShapes Go.WideShapes Go.ChangeAt in
set_option maxRecDepth 100000 in
theorem ProfIncludes_lifted (os : Os) (started : os.Started) (H : Type) (enc : TypeId × Value → H) (F : Stop.Interp) :
    ReturnsInHanded {} Tryd.checked os 4 .any ((Rows.OpenSpec.upto Rows.profIncludesSpec).preRow enc Tryd.prog Tryd.f4 Rows.profIncludesUptoRow.domain false Rows.profIncludesUptoRow.laid) (((Rows.OpenSpec.upto Rows.profIncludesSpec).at F).post enc Tryd.prog Tryd.f4 false true false false) := by
  obtain ⟨places, hx⟩ := ProfIncludes_reads os enc
  refine returnsInHanded_of_row (C := Tryd.checked) (s := Rows.OpenSpec.upto Rows.profIncludesSpec) own started (by kernel_rfl) Tryd.func4
    (witness_row_at (enc := enc) (C := Tryd.checked) false (laidWorldP os) #[.string ⟨#[]⟩, .string ⟨#[]⟩, .string ⟨#[]⟩] rfl (by kernel_rfl) (by kernel_rfl) (by kernel_rfl)
      (OpenSpec.preRow_of_cond 8 hx (by kernel_rfl) (fun k hk => by cases hk; kernel_rfl) (by kernel_rfl) (ProfIncludes_met os))) ?_
  intro W base args ds gs before hval hW _ hcond _ hL hS _
  exact ProfIncludes_contract H enc W base args ds gs before hval hW hL hS (hcond _ rfl)

theorem ProfIncludes_said : Rows.ProfIncludesUptoSaid :=
  OpenClaim.holds_of_cond 4 Tryd.f4 rfl rfl rfl rfl rfl rfl rfl ⟨rfl, rfl, rfl, rfl, rfl⟩ rfl rfl rfl rfl rfl (by kernel_rfl) Tryd.func4 (by kernel_rfl)
    (of_decide_eq_true (by kernel_rfl)) (by unfold Func.isWrapper; first | (rw [if_pos (by decide +kernel)]; kernel_rfl) | (rw [if_neg (by decide +kernel)]; exact ⟨rfl, rfl⟩))
    (fun os started H enc _ F => by rw [OpenClaim.pre_eq_preRow]; exact ProfIncludes_lifted os started H enc F)

theorem ProfIncludes_holds : Rows.ProfIncludesUptoCardSaid :=
  Claim7.holds_tied_plain_at .later [] _ _ _ _ ProfIncludes_said (fun _ h => by cases h) (by kernel_rfl) (fun _ h => by cases h) profIncludesUpto_row_tie rfl ⟨rfl, rfl⟩ (by kernel_rfl) rfl
    (card_plain (f0 := 4) (fn0 := Tryd.f4) (by kernel_rfl) Tryd.func4 (by kernel_rfl) (by kernel_rfl)) (by kernel_rfl)
end Go.Proofs.YtoifnnhbejofjaaDoor
end
