/- hawserlaw08.ProfWrites: a profile's lines are the document's, and say that profile. The condition: the arguments' bulk (Upto). -/
import Derived.Test.YtoifnnhbejofjaaDoorBProfWrites8
import Derived.Test.YtoifnnhbejofjaaDoorBProfBaseA9
set_option linter.unusedSimpArgs false
set_option linter.unusedVariables false

section
set_option linter.unusedVariables false
namespace Go.Proofs.YtoifnnhbejofjaaDoor
open Go.RowKit Plain

theorem sum_lenW {α : Type} (l : List α) (f : α → Nat) (h : ∀ x ∈ l, 1 ≤ f x) : l.length ≤ (l.map f).sum := by
  induction l with
  | nil => simp
  | cons y l ih =>
    have h1 := h y (by simp)
    have h2 := ih (fun x hx => h x (by simp [hx]))
    simp only [List.length_cons, List.map_cons, List.sum_cons]
    omega
theorem sum_memW {α : Type} (l : List α) (f : α → Nat) (x : α) (h : x ∈ l) : f x ≤ (l.map f).sum := by
  induction l with
  | nil => cases h
  | cons y l ih =>
    simp only [List.map_cons, List.sum_cons]
    rcases List.mem_cons.1 h with rfl | h
    · omega
    · have := ih h; omega
theorem sizeP_of {p : PF} {n : Nat} (hn : n ≤ 1048576) (h : (p.ign.map fun o => o.pat.length + 1).sum + (p.bak.map fun o => o.pat.length + 1).sum + (p.mrg.map fun o => o.name.length + o.pat.length + 1).sum ≤ n) : SizeP p := by
  have a1 := sum_lenW p.ign (fun o => o.pat.length + 1) (fun _ _ => by omega)
  have a2 := sum_lenW p.bak (fun o => o.pat.length + 1) (fun _ _ => by omega)
  have a3 := sum_lenW p.mrg (fun o => o.name.length + o.pat.length + 1) (fun _ _ => by omega)
  refine ⟨⟨by omega, fun r hr => ?_⟩, ⟨by omega, fun r hr => ?_⟩, ⟨by omega, fun r hr => ?_⟩⟩
  · have := sum_memW p.ign (fun o => o.pat.length + 1) r hr; omega
  · have := sum_memW p.bak (fun o => o.pat.length + 1) r hr; omega
  · have := sum_memW p.mrg (fun o => o.name.length + o.pat.length + 1) r hr; omega
theorem print_some {p : PF} (h : (printP p).2 = 0) : printable p = true ∧ (printP p).1 = textP p := by
  cases hp : printable p with
  | true => exact ⟨rfl, by rw [print_yes hp]⟩
  | false => rw [print_no hp] at h; cases h

set_option maxHeartbeats 8000000 in
set_option maxRecDepth 100000 in
theorem ProfWrites_any (p : PF) (A0 : Option Addr) (c0 : Nat) (A1 : Option Addr) (c1 : Nat) (A2 : Option Addr) (c2 : Nat) (m : Int) (w : World) (hL : LaidP w m) (h : PfAt w A0 c0 A1 c1 A2 c2 p) (hs : SizeP p) :
    Calls Tryd.prog 5 #[pfV A0 c0 A1 c1 A2 c2 p] w (Ret w (.bool true)) := by
  obtain ⟨W0, hW0⟩ : ∃ W0, w.alloc (.cells #[.slice A0 p.ign.length c0, .slice A1 p.bak.length c1, .slice A2 p.mrg.length c2, .int .i64 p.pre, .int .i64 p.frc, .bool p.bat, .bool p.fst] 27) = W0 := ⟨_, rfl⟩
  have hB0 : Below w.heap.size w W0 := by rw [← hW0]; exact (Below.refl _ _).alloc (Nat.le_refl _) _
  have hr0 : W0.heap[w.heap.size]? = some (.cells #[.slice A0 p.ign.length c0, .slice A1 p.bak.length c1, .slice A2 p.mrg.length c2, .int .i64 p.pre, .int .i64 p.frc, .bool p.bat, .bool p.fst] 27 (0, 0)) := by rw [← hW0]; exact heap_alloc_new _ _
  have hz0 : w.heap.size < W0.heap.size := (Array.getElem?_eq_some_iff.1 hr0).1
  have HAW := Lib.hid (pawake_any m W0 (hL.below hB0))
  have HLD := Lib.hid (fun W (hW : Below W0.heap.size W0 W) => hL.below (hB0.trans (hW.mono hB0.size)))
  have HPF := Lib.hid (fun W (hW : Below W0.heap.size W0 W) => h.below (hB0.trans (hW.mono hB0.size)))
  have HRW : Hid (∀ W, Below W0.heap.size W0 W → W.heap[w.heap.size]? = some (.cells #[.slice A0 p.ign.length c0, .slice A1 p.bak.length c1, .slice A2 p.mrg.length c2, .int .i64 p.pre, .int .i64 p.frc, .bool p.bat, .bool p.fst] 27 (0, 0))) := Lib.hid (fun W hW => (hW.block _ hz0).trans hr0)
  have HBW : Hid (∀ W, Below W0.heap.size W0 W → Below w.heap.size w W) := Lib.hid (fun W hW => hB0.trans (hW.mono hB0.size))
  have HP1 := Lib.hid (fun W (hW : Below W0.heap.size W0 W) => pprint_any p A0 c0 A1 c1 A2 c2 m W (HLD.out W hW) (HPF.out W hW) hs)
  have HP2 := Lib.hid (fun W (hW : Below W0.heap.size W0 W) => rprint_any p A0 c0 A1 c1 A2 c2 W (HPF.out W hW) hs)
  have HSM := Lib.hid (fun W (hW : Below W0.heap.size W0 W) B0 d0 B1 d1 B2 d2 (hq : PfAt W B0 d0 B1 d1 B2 d2 p) => Same_same p A0 c0 A1 c1 A2 c2 B0 d0 B1 d1 B2 d2 W (HPF.out W hW) hq (by
    have h1 := h.cap
    have h2 := h.len
    unfold maxLen at h2
    omega))
  have HPS := Lib.hid (fun h => print_some (p := p) h)
  have HPB := Lib.hid (fun h h2 => print_back (p := p) h h2)
  have HW0 := Lib.hid hW0
  unfold pfV at HP1 HP2 HSM ⊢
  generalize printP p = out at *
  obtain ⟨s, k⟩ := out
  simp only at HPS
  dsimp only at HP1 HP2
  clear hW0 hB0 hr0 hz0 hL h hs
  go_enter Tryd.func5, Tryd.ntmps5
  go_upto_region 1 with (fail)
  rw [HW0.out]
  go_wp2_with (fail)
  refine HAW.out.mono ?_
  rintro e w1 ⟨rfl, hw1⟩
  have HB1 := Lib.hid hw1
  have hr1 := HRW.out _ hw1
  have p0 := cell_of_row _ _ 0 _ _ _ hr1
  have p1 := cell_of_row _ _ 1 _ _ _ hr1
  have p2 := cell_of_row _ _ 2 _ _ _ hr1
  have p3 := cell_of_row _ _ 3 _ _ _ hr1
  have p4 := cell_of_row _ _ 4 _ _ _ hr1
  have p5 := cell_of_row _ _ 5 _ _ _ hr1
  have p6 := cell_of_row _ _ 6 _ _ _ hr1
  clear hw1 hr1
  go_wp2_with (fail)
  refine (HP1.out _ HB1.out).mono ?_
  rintro e w2 ⟨rfl, hw2⟩
  have HB2 := Lib.hid (HB1.out.trans (hw2.mono HB1.out.size))
  clear hw2 p0 p1 p2 p3 p4 p5 p6
  have hr1 := HRW.out _ HB2.out
  have p0 := cell_of_row _ _ 0 _ _ _ hr1
  have p1 := cell_of_row _ _ 1 _ _ _ hr1
  have p2 := cell_of_row _ _ 2 _ _ _ hr1
  have p3 := cell_of_row _ _ 3 _ _ _ hr1
  have p4 := cell_of_row _ _ 4 _ _ _ hr1
  have p5 := cell_of_row _ _ 5 _ _ _ hr1
  have p6 := cell_of_row _ _ 6 _ _ _ hr1
  clear hr1
  go_wp2_with (fail)
  refine (HP2.out _ HB2.out).mono ?_
  rintro e w3 ⟨rfl, hw3⟩
  have HB3 := Lib.hid (HB2.out.trans (hw3.mono HB2.out.size))
  clear hw3 p0 p1 p2 p3 p4 p5 p6
  by_cases hk : k = 0
  · subst hk
    by_cases hlen : s.length > 65536
    · have g : (65536 : Int) < (s.length : Int) := by omega
      clear hlen
      go_wp2_with (fail)
      go_ret
      exact ⟨rfl, HBW.out _ HB3.out⟩
    · have g : ¬ (65536 : Int) < (s.length : Int) := by omega
      obtain ⟨hpr, hst⟩ := HPS.out rfl
      have hpb := HPB.out hpr (by rw [← hst]; omega)
      rw [← hst] at hpb
      obtain ⟨W4, hW4⟩ : ∃ W4, w3.alloc (.cells #[.string ⟨#[120]⟩, .string ⟨s.toArray⟩] 29) = W4 := ⟨_, rfl⟩
      have hB4 : Below w3.heap.size w3 W4 := by rw [← hW4]; exact (Below.refl _ _).alloc (Nat.le_refl _) _
      have hR4 : IsRows W4 2 (some ⟨w3.heap.size, 0, none⟩) ([(⟨nx, s⟩ : Txt)].map txtV) := rows_heap txtV_length [⟨nx, s⟩] (t := 29) (fr := (0, 0)) (by rw [← hW4]; exact heap_alloc_new _ _)
      have HB4 := Lib.hid (HB3.out.trans (hB4.mono HB3.out.size))
      have hpa := parse_any [⟨nx, s⟩] (some ⟨w3.heap.size, 0, none⟩) 1 nx m W4 (HLD.out _ HB4.out) hR4 (by simp) (by
        intro x hx
        simp only [List.mem_cons, List.not_mem_nil, or_false] at hx
        subst hx
        simp; omega)
      rw [hpb] at hpa
      have HPA := Lib.hid (show Calls Tryd.prog 7 #[.slice (some ⟨w3.heap.size, 0, none⟩) 1 1, .string ⟨#[120]⟩] W4 (ParseOut W4 (p, ⟨[], []⟩, 0)) from hpa)
      have HW4 := Lib.hid hW4
      clear hlen hpr hst hpb hW4 hB4 hR4 hpa HPS HPB
      go_wp2_with (fail)
      rw [HW4.out]
      refine HPA.out.mono ?_
      rintro e w5 ⟨B0, d0, B1, d1, B2, d2, rfl, hp5, hb5⟩
      unfold pfV txtV
      dsimp only at hp5 ⊢
      obtain ⟨W6, hW6, hb6, hq1, hq2, hsz6⟩ := two_new (w2 := w5) (C0 := B0) (C1 := B1) (C2 := B2) (e0 := d0) (e1 := d1) (e2 := d2) (q := p) (tq := ⟨[], []⟩)
      have hb56 := hb5.trans (hb6.mono hb5.size)
      have HB6 := Lib.hid (HB4.out.trans (hb56.mono HB4.out.size))
      have HCS := Lib.hid (HSM.out _ HB6.out B0 d0 B1 d1 B2 d2 (hp5.below hb6))
      have HW6 := Lib.hid hW6
      have hr1 := HRW.out _ HB6.out
      have p0 := cell_of_row _ _ 0 _ _ _ hr1
      have p1 := cell_of_row _ _ 1 _ _ _ hr1
      have p2 := cell_of_row _ _ 2 _ _ _ hr1
      have p3 := cell_of_row _ _ 3 _ _ _ hr1
      have p4 := cell_of_row _ _ 4 _ _ _ hr1
      have p5 := cell_of_row _ _ 5 _ _ _ hr1
      have p6 := cell_of_row _ _ 6 _ _ _ hr1
      have y0 := cell_of_row _ _ 0 _ _ _ hq1
      have y1 := cell_of_row _ _ 1 _ _ _ hq1
      have y2 := cell_of_row _ _ 2 _ _ _ hq1
      have y3 := cell_of_row _ _ 3 _ _ _ hq1
      have y4 := cell_of_row _ _ 4 _ _ _ hq1
      have y5 := cell_of_row _ _ 5 _ _ _ hq1
      have y6 := cell_of_row _ _ 6 _ _ _ hq1
      clear hp5 hb5 hb6 hq1 hq2 hsz6 hb56 hW6 hr1 HSM HPA HW4
      go_upto_region 10 with (fail)
      rw [HW6.out]
      clear HW6
      go_wp2_with (fail)
      refine HCS.out.mono ?_
      rintro e w7 ⟨rfl, hw7⟩
      have HB7 := Lib.hid (HB6.out.trans (hw7.mono HB6.out.size))
      clear hw7
      go_wp2_with (fail)
      go_ret
      exact ⟨rfl, HBW.out _ HB7.out⟩
  · have g2 : ((k : Int) == 0) = false := by rw [beq_eq_false_iff_ne]; omega
    have g3 : ((k : Int) != 0) = true := by rw [bne_iff_ne]; omega
    clear hk
    go_wp2_with (fail)
    go_ret
    exact ⟨rfl, HBW.out _ HB3.out⟩


open Go.ChangeShapes Go.WideShapes Go.ChangeAt in
set_option maxRecDepth 100000 in
/-- What the walk gives, for every argument. -/
theorem ProfWrites_contract (H : Type) (enc : TypeId × Value → H) (W : World) (base : Nat) (args : Array Value) (ds gs : List (DataW H)) (before : List MemPlace)
    (hval : ∀ (j : Nat) t v, Tryd.f5.params[j]? = some t → args[j]? = some v → Value.okWide Tryd.prog W .any base t v)
    (hW : DataW.Whole enc Tryd.prog Tryd.f5.params.toList Rows.profWritesSpec.vars false W args.toList ds gs before) (hL : laidMetH Tryd.prog Rows.profWritesRow.laid W) (hS : W.ShapedOpen Tryd.prog) (hk : Rows.uptoSmall H (ds ++ gs) = true) :
    Calls Tryd.prog 5 args W fun e W' => ∃ v, e = .returned v ∧ Rows.profWritesSpec.post enc Tryd.prog Tryd.f5 false true false false W args v W' := by
  have hW' := hW
  obtain ⟨p, q, hA0, hV, rfl, hfz, hnd⟩ := hW
  have hA : DataW.TrodAll enc Tryd.prog W 0 (fun _ => true) true Tryd.f5.params.toList args.toList ds p := hA0
  rw [Tryd.params5] at hA hval
  obtain ⟨v0, vs0, d0, ds0, p0, q0, hargs, rfl, rfl, h0, r0⟩ := trodAll_cons hA
  obtain ⟨rfl, rfl, rfl⟩ := trodAll_nil r0
  obtain rfl : args = #[v0] := by cases args; simp_all
  obtain ⟨rfl, rfl⟩ := trodVars_none hV
  obtain ⟨A0, c0, B0, d'0, C0, e0, p0, rfl, hp0, ko0, kw0⟩ := open_pf (hval 0 27 v0 rfl rfl) h0
  clear hA0
  have hbulk := bulk_bound hk
  simp only [List.cons_append, List.nil_append, List.append_nil, Rows.uptoBulkAll] at hbulk
  obtain ⟨m, hm⟩ := laid_ofP hL hS
  refine (ProfWrites_any p0 A0 c0 B0 d'0 C0 e0 m W hm hp0 (sizeP_of (by omega) kw0)).mono ?_
  exact fun e W' ⟨he, hb⟩ => ⟨_, he, law_post rfl hW' rfl (by kernel_rfl) Tryd.underlying4 (by kernel_rfl) laidOut hb⟩

open Go.ChangeShapes Go.WideShapes Go.ChangeAt in
theorem ProfWrites_met (os : Os) : laidMet Tryd.prog Rows.profWritesUptoRow.laid ((laidWorldP os).forCall (fun _ _ => 0) ⟨#[], #[.agg #[.slice none 0 0, .slice none 0 0, .slice none 0 0, .int .i64 0, .int .i64 0, .bool false, .bool false]], []⟩).memory :=
  laidMet_of_run' 8 (by kernel_rfl) (by kernel_rfl)
open Go.ChangeShapes Go.WideShapes Go.ChangeAt in
theorem ProfWrites_reads (os : Os) {H : Type} (enc : TypeId × Value → H) : ∃ places, DataW.whole enc Tryd.prog ((laidWorldP os).forCall (fun _ _ => 0) ⟨#[], #[.agg #[.slice none 0 0, .slice none 0 0, .slice none 0 0, .int .i64 0, .int .i64 0, .bool false, .bool false]], []⟩).memory Tryd.f5.params.toList Rows.profWritesSpec.vars false #[.agg #[.slice none 0 0, .slice none 0 0, .slice none 0 0, .int .i64 0, .int .i64 0, .bool false, .bool false]].toList 8 = some ([.agg [.nil, .nil, .nil, .lit (.int .i64 0), .lit (.int .i64 0), .lit (.bool false), .lit (.bool false)]], [], places) :=
  ⟨[], by kernel_rfl⟩

open Go.ChangeShapes Go.WideShapes Go.ChangeAt in
set_option maxRecDepth 100000 in
theorem ProfWrites_lifted (os : Os) (started : os.Started) (H : Type) (enc : TypeId × Value → H) (F : Stop.Interp) :
    ReturnsInHanded {} Tryd.checked os 5 .any ((Rows.OpenSpec.upto Rows.profWritesSpec).preRow enc Tryd.prog Tryd.f5 Rows.profWritesUptoRow.domain false Rows.profWritesUptoRow.laid) (((Rows.OpenSpec.upto Rows.profWritesSpec).at F).post enc Tryd.prog Tryd.f5 false true false false) := by
  obtain ⟨places, hx⟩ := ProfWrites_reads os enc
  refine returnsInHanded_of_row (C := Tryd.checked) (s := Rows.OpenSpec.upto Rows.profWritesSpec) own started (by kernel_rfl) Tryd.func5
    (witness_row_at (enc := enc) (C := Tryd.checked) false (laidWorldP os) #[.agg #[.slice none 0 0, .slice none 0 0, .slice none 0 0, .int .i64 0, .int .i64 0, .bool false, .bool false]] rfl (by kernel_rfl) (by kernel_rfl) (by kernel_rfl)
      (OpenSpec.preRow_of_cond 8 hx (by kernel_rfl) (fun k hk => by cases hk; kernel_rfl) (by kernel_rfl) (ProfWrites_met os))) ?_
  intro W base args ds gs before hval hW _ hcond _ hL hS _
  exact ProfWrites_contract H enc W base args ds gs before hval hW hL hS (hcond _ rfl)

theorem ProfWrites_said : Rows.ProfWritesUptoSaid :=
  OpenClaim.holds_of_cond 5 Tryd.f5 rfl rfl rfl rfl rfl rfl rfl ⟨rfl, rfl, rfl, rfl, rfl⟩ rfl rfl rfl rfl rfl (by kernel_rfl) Tryd.func5 (by kernel_rfl)
    (of_decide_eq_true (by kernel_rfl)) (by unfold Func.isWrapper; first | (rw [if_pos (by decide +kernel)]; kernel_rfl) | (rw [if_neg (by decide +kernel)]; exact ⟨rfl, rfl⟩))
    (fun os started H enc _ F => by rw [OpenClaim.pre_eq_preRow]; exact ProfWrites_lifted os started H enc F)

theorem ProfWrites_holds : Rows.ProfWritesUptoCardSaid :=
  Claim7.holds_tied_plain_at .later [] _ _ _ _ ProfWrites_said (fun _ h => by cases h) (by kernel_rfl) (fun _ h => by cases h) profWritesUpto_row_tie rfl ⟨rfl, rfl⟩ (by kernel_rfl) rfl
    (card_plain (f0 := 5) (fn0 := Tryd.f5) (by kernel_rfl) Tryd.func5 (by kernel_rfl) (by kernel_rfl)) (by kernel_rfl)
end Go.Proofs.YtoifnnhbejofjaaDoor
end
