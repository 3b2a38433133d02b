/- hawserlaw13.PlanWays: nothing goes against its direction but by force. The condition: the arguments' bulk is what a machine can hold (Upto). -/
import Derived.Test.YtjhjepkmcbjgoaaDoorBPlanBase19
import Derived.Test.YtjhjepkmcbjgoaaDoorBPlanBase110
set_option linter.unusedSimpArgs false
set_option linter.unusedVariables false

section
set_option linter.unusedVariables false
namespace Go.Proofs.YtjhjepkmcbjgoaaDoor
open Go.RowKit Plain

set_option maxRecDepth 100000 in
set_option maxHeartbeats 8000000 in
theorem PlanWays_any (items : List Itm) (A : Option Addr) (ca : Nat) (A0 : Option Addr) (n0 c0 : Nat) (A1 : Option Addr) (n1 c1 : Nat) (A2 : Option Addr) (c2 : Nat) (p : Prf) (fast : Bool) (m : Int) (w : World) (hL : Laid w m)
    (hR : IsRows w 2 A2 (p.merge.map prgV)) (hlen : p.merge.length ≤ 4294967296)
    (hI : IsRows w 2 A (items.map itmV)) (hil : items.length ≤ 4294967296) (his : ∀ x ∈ items, x.path.length ≤ 9223372036854775807) :
    Calls Tryd.prog 6 #[.slice A items.length ca, profV A0 n0 c0 A1 n1 c1 A2 c2 p fast] w (Ret w (.bool true)) := by
  have HMK := Lib.hid (fun W (h : Below w.heap.size w W) => Make_any items A ca A0 n0 c0 A1 n1 c1 A2 c2 p fast [] none 0 m W (hL.below h) (hR.below h) hlen (hI.below h) (fun k h => absurd h (by simp)) hil (by simp) his (by simp))
  have HAW := Lib.hid (fun W (h : Below w.heap.size w W) => awake_any m W (hL.below h))
  have HRI := Lib.hid (fun W (h : Below w.heap.size w W) => hI.below h)
  unfold profV at *
  clear hL hI hR
  obtain ⟨w1, hw1⟩ : ∃ w1, w.alloc (.cells #[.slice A0 n0 c0, .slice A1 n1 c1, .slice A2 p.merge.length c2, .int .i64 p.prefer, .int .i64 p.force, .bool p.batch, .bool fast] 26) = w1 := ⟨_, rfl⟩
  have HW1 := Lib.hid hw1
  have HB1 := Lib.hid (show Below w.heap.size w w1 by rw [← hw1]; exact (Below.refl _ _).alloc (Nat.le_refl _) _)
  have HP1 := Lib.hid (show w1.heap[w.heap.size]? = some (.cells #[.slice A0 n0 c0, .slice A1 n1 c1, .slice A2 p.merge.length c2, .int .i64 p.prefer, .int .i64 p.force, .bool p.batch, .bool fast] 26 (0, 0)) by rw [← hw1]; exact heap_alloc_new _ _)
  have HLT1 := Lib.hid (show w.heap.size < w1.heap.size by rw [← hw1]; simp)
  clear hw1
  go_enter Tryd.func6, Tryd.ntmps6
  go_wp2_with (fail)
  rw [HW1.out]
  refine (HAW.out _ HB1.out).mono ?_
  rintro e w2 ⟨rfl, hb2⟩
  have HP2 := Lib.hid ((hb2.block _ HLT1.out).trans HP1.out)
  have HB2 := Lib.hid (HB1.out.trans (hb2.mono HB1.out.size))
  have HLT2 := Lib.hid (show w.heap.size < w2.heap.size from Nat.lt_of_lt_of_le HLT1.out hb2.size)
  have c0' := cell_of_row w2 w.heap.size 0 _ _ _ HP2.out
  have c1' := cell_of_row w2 w.heap.size 1 _ _ _ HP2.out
  have c2' := cell_of_row w2 w.heap.size 2 _ _ _ HP2.out
  have c3' := cell_of_row w2 w.heap.size 3 _ _ _ HP2.out
  have c4' := cell_of_row w2 w.heap.size 4 _ _ _ HP2.out
  have c5' := cell_of_row w2 w.heap.size 5 _ _ _ HP2.out
  have c6' := cell_of_row w2 w.heap.size 6 _ _ _ HP2.out
  have HM3 := Lib.hid (HMK.out w2 HB2.out)
  clear hb2
  go_wp2_with (fail)
  clear c0' c1' c2' c3' c4' c5' c6'
  refine HM3.out.mono ?_
  intro e w4 hp
  obtain ⟨A', c', rfl, hr, hb4⟩ := make_post hp
  have HB4 := Lib.hid (HB2.out.trans (hb4.mono HB2.out.size))
  have HP4 := Lib.hid ((hb4.block _ HLT2.out).trans HP2.out)
  have HLT4 := Lib.hid (show w.heap.size < w4.heap.size from Nat.lt_of_lt_of_le HLT2.out hb4.size)
  have HR := Lib.hid hr
  clear hp hr hb4 HM3
  have c4' := cell_of_row w4 w.heap.size 4 _ _ _ HP4.out
  rcases make_nil_err items p with he | he
  · obtain ⟨h1, h2, h3⟩ := make_ok he
    rw [h3] at HR ⊢
    have HN := Lib.hid (fun i (h : i < items.length) hw => outP_nth h p [] hw)
    have HCN := Lib.hid (fun i (h : i < items.length) => outP_cnt h p [])
    have HF := Lib.hid (show (outP (items.take items.length) p []) = outP items p [] by rw [List.take_of_length_le (Nat.le_refl _)])
    have HWH := Lib.hid (fun i (h : i < items.length) => item_what h1 h)
    have hol := outP_length items p []
    simp only [show ((0 : Nat) : Int) = 0 from rfl] at HR ⊢
    clear he h1 h2 h3
    have HACT := Lib.hid (fun what s => And.intro (fun (h : p.force = 1 ∨ p.force = 2) => show actP what (progP p.merge s) p (lookC [] s) = p.force by
        unfold actP; show (if p.force = 1 ∨ p.force = 2 then p.force else _) = _; rw [if_pos h])
      (fun (h : ¬ (p.force = 1 ∨ p.force = 2)) (h4 : what ≠ 4) => show actP what (progP p.merge s) p (lookC [] s) = if p.batch = true then goes what else 0 by
        unfold actP; show (if p.force = 1 ∨ p.force = 2 then p.force else _) = _; rw [if_neg h, if_neg h4]))
    obtain ⟨merge, prefer, force, batch⟩ := p
    simp only at *
    by_cases hfo : force = 1 ∨ force = 2
    · have hact := fun what s => (HACT.out what s).1 hfo
      have HAC := Lib.hid hact
      clear hact HACT
      cases hf1 : (force == 1)
      · have hf2 : (force == 2) = true := by rcases hfo with h | h <;> simp [h] at hf1 ⊢
        clear hfo
        go_wp2_with (fail)
        go_loopw [9, 37] (fun t9 t37 W => ∃ (i : Nat), i ≤ items.length ∧ t37 = .int .i64 i ∧ t9 = .int .i64 (outP (items.take i) ⟨merge, prefer, force, batch⟩ []).length ∧ Hid (Below w4.heap.size w4 W)) (fun _ t37 _ => items.length - (intOf t37).toNat)
        case atStart => exact ⟨0, by omega, rfl, rfl, Lib.hid (Below.refl _ _)⟩
        case round =>
          obtain ⟨i, hi, rfl, rfl, HB⟩ := hrel
          have HBW := Lib.hid (HB4.out.trans (HB.out.mono HB4.out.size))
          have i0' : (0 : Int) ≤ i := by omega
          have e1 : IntKind.i64.wrap ((i : Int) + 1) = (i : Int) + 1 := IntWalk.i64_in _ (by omega)
          by_cases hlt : i < items.length
          · have i1 : (i : Int) < items.length := by omega
            obtain ⟨ad, rfl, q0, q1⟩ := itm_at (HRI.out _ HBW.out) hlt
            have hcn := HCN.out i hlt
            have hnt := HN.out i hlt
            have hwr := HWH.out i hlt
            have hB5 := HB.out.trans (((Below.refl wr.heap.size wr).alloc (Nat.le_refl _) (Obj.cells #[Value.string ⟨items[i].path.toArray⟩, Value.int .i64 items[i].what] 38)).mono HB.out.size)
            have HBA := Lib.hid hB5
            have HP5 := Lib.hid ((hB5.block _ HLT4.out).trans HP4.out)
            have p4' := cell_of_row _ w.heap.size 4 _ _ _ HP5.out
            have p5' := cell_of_row _ w.heap.size 5 _ _ _ HP5.out
            have hac := HAC.out items[i].what items[i].path
            clear hB5
            generalize items[i].path = path at *
            generalize items[i].what = what at *
            by_cases hw : what = 1
            · rw [if_pos hw] at hcn
              have HC := Lib.hid hcn
              subst hw
              clear hcn hnt hac p4' p5' c4' hwr
              go_wp2_with (fail)
              go_roundw
              case rel => exact ⟨i + 1, by omega, by go_num, by rw [HC.out], HBA⟩
              case measure => simp [intOf]; omega
            · rw [if_neg hw] at hcn
              obtain ⟨hk, hnk⟩ := hnt hw
              have hw' : (what == 1) = false := beq_eq_false_iff_ne.2 hw
              obtain ⟨ad', rfl, r0, r1⟩ := chc_at (HR.out.below HBA.out) hk
              rw [hnk] at r0 r1
              simp only at r0 r1
              have HC := Lib.hid hcn
              clear hnt hnk HN
              generalize (outP (items.take i) ⟨merge, prefer, force, batch⟩ []).length = k at *
              generalize (outP items ⟨merge, prefer, force, batch⟩ []).length = n at *
              generalize actP what (progP merge path) ⟨merge, prefer, force, batch⟩ (lookC [] path) = act at *
              have k0' : (0 : Int) ≤ k := by omega
              have k1 : (k : Int) < n := by omega
              have k2 : decide ((n : Int) ≤ (k : Int)) = false := by rw [decide_eq_false_iff_not]; omega
              have k3 : decide (n ≤ k) = false := by rw [decide_eq_false_iff_not]; omega
              have e2 : IntKind.i64.wrap ((k : Int) + 1) = (k : Int) + 1 := IntWalk.i64_in _ (by omega)
              clear hcn hw c4'
              have q1 : (act != force) = false := by rw [hac]; simp
              clear hac hwr
              go_wp2_with (fail)
              go_quiet (fail)
              go_wp2_with (fail)
              go_roundw
              case rel => exact ⟨i + 1, by omega, by go_num, by rw [HC.out]; go_num, Lib.hid (below_drewN HBA.out _)⟩
              case measure => simp [intOf]; omega
          · obtain rfl : i = items.length := by omega
            rw [HF.out]
            go_wp2_with (fail)
            go_ret
            exact ⟨by simp, HBW.out⟩
      · clear hfo
        go_wp2_with (fail)
        go_loopw [9, 37] (fun t9 t37 W => ∃ (i : Nat), i ≤ items.length ∧ t37 = .int .i64 i ∧ t9 = .int .i64 (outP (items.take i) ⟨merge, prefer, force, batch⟩ []).length ∧ Hid (Below w4.heap.size w4 W)) (fun _ t37 _ => items.length - (intOf t37).toNat)
        case atStart => exact ⟨0, by omega, rfl, rfl, Lib.hid (Below.refl _ _)⟩
        case round =>
          obtain ⟨i, hi, rfl, rfl, HB⟩ := hrel
          have HBW := Lib.hid (HB4.out.trans (HB.out.mono HB4.out.size))
          have i0' : (0 : Int) ≤ i := by omega
          have e1 : IntKind.i64.wrap ((i : Int) + 1) = (i : Int) + 1 := IntWalk.i64_in _ (by omega)
          by_cases hlt : i < items.length
          · have i1 : (i : Int) < items.length := by omega
            obtain ⟨ad, rfl, q0, q1⟩ := itm_at (HRI.out _ HBW.out) hlt
            have hcn := HCN.out i hlt
            have hnt := HN.out i hlt
            have hwr := HWH.out i hlt
            have hB5 := HB.out.trans (((Below.refl wr.heap.size wr).alloc (Nat.le_refl _) (Obj.cells #[Value.string ⟨items[i].path.toArray⟩, Value.int .i64 items[i].what] 38)).mono HB.out.size)
            have HBA := Lib.hid hB5
            have HP5 := Lib.hid ((hB5.block _ HLT4.out).trans HP4.out)
            have p4' := cell_of_row _ w.heap.size 4 _ _ _ HP5.out
            have p5' := cell_of_row _ w.heap.size 5 _ _ _ HP5.out
            have hac := HAC.out items[i].what items[i].path
            clear hB5
            generalize items[i].path = path at *
            generalize items[i].what = what at *
            by_cases hw : what = 1
            · rw [if_pos hw] at hcn
              have HC := Lib.hid hcn
              subst hw
              clear hcn hnt hac p4' p5' c4' hwr
              go_wp2_with (fail)
              go_roundw
              case rel => exact ⟨i + 1, by omega, by go_num, by rw [HC.out], HBA⟩
              case measure => simp [intOf]; omega
            · rw [if_neg hw] at hcn
              obtain ⟨hk, hnk⟩ := hnt hw
              have hw' : (what == 1) = false := beq_eq_false_iff_ne.2 hw
              obtain ⟨ad', rfl, r0, r1⟩ := chc_at (HR.out.below HBA.out) hk
              rw [hnk] at r0 r1
              simp only at r0 r1
              have HC := Lib.hid hcn
              clear hnt hnk HN
              generalize (outP (items.take i) ⟨merge, prefer, force, batch⟩ []).length = k at *
              generalize (outP items ⟨merge, prefer, force, batch⟩ []).length = n at *
              generalize actP what (progP merge path) ⟨merge, prefer, force, batch⟩ (lookC [] path) = act at *
              have k0' : (0 : Int) ≤ k := by omega
              have k1 : (k : Int) < n := by omega
              have k2 : decide ((n : Int) ≤ (k : Int)) = false := by rw [decide_eq_false_iff_not]; omega
              have k3 : decide (n ≤ k) = false := by rw [decide_eq_false_iff_not]; omega
              have e2 : IntKind.i64.wrap ((k : Int) + 1) = (k : Int) + 1 := IntWalk.i64_in _ (by omega)
              clear hcn hw c4'
              have q1 : (act != force) = false := by rw [hac]; simp
              clear hac hwr
              go_wp2_with (fail)
              go_quiet (fail)
              go_wp2_with (fail)
              go_roundw
              case rel => exact ⟨i + 1, by omega, by go_num, by rw [HC.out]; go_num, Lib.hid (below_drewN HBA.out _)⟩
              case measure => simp [intOf]; omega
          · obtain rfl : i = items.length := by omega
            rw [HF.out]
            go_wp2_with (fail)
            go_ret
            exact ⟨by simp, HBW.out⟩
    · have hact := fun what s => (HACT.out what s).2 hfo
      have HAC := Lib.hid hact
      have hf1 : (force == 1) = false := by rw [beq_eq_false_iff_ne]; exact fun h => hfo (.inl h)
      have hf2 : (force == 2) = false := by rw [beq_eq_false_iff_ne]; exact fun h => hfo (.inr h)
      clear hact HACT hfo
      go_wp2_with (fail)
      go_loopw [9, 37] (fun t9 t37 W => ∃ (i : Nat), i ≤ items.length ∧ t37 = .int .i64 i ∧ t9 = .int .i64 (outP (items.take i) ⟨merge, prefer, force, batch⟩ []).length ∧ Hid (Below w4.heap.size w4 W)) (fun _ t37 _ => items.length - (intOf t37).toNat)
      case atStart => exact ⟨0, by omega, rfl, rfl, Lib.hid (Below.refl _ _)⟩
      case round =>
        obtain ⟨i, hi, rfl, rfl, HB⟩ := hrel
        have HBW := Lib.hid (HB4.out.trans (HB.out.mono HB4.out.size))
        have i0' : (0 : Int) ≤ i := by omega
        have e1 : IntKind.i64.wrap ((i : Int) + 1) = (i : Int) + 1 := IntWalk.i64_in _ (by omega)
        by_cases hlt : i < items.length
        · have i1 : (i : Int) < items.length := by omega
          obtain ⟨ad, rfl, q0, q1⟩ := itm_at (HRI.out _ HBW.out) hlt
          have hcn := HCN.out i hlt
          have hnt := HN.out i hlt
          have hwr := HWH.out i hlt
          have hB5 := HB.out.trans (((Below.refl wr.heap.size wr).alloc (Nat.le_refl _) (Obj.cells #[Value.string ⟨items[i].path.toArray⟩, Value.int .i64 items[i].what] 38)).mono HB.out.size)
          have HBA := Lib.hid hB5
          have HP5 := Lib.hid ((hB5.block _ HLT4.out).trans HP4.out)
          have p4' := cell_of_row _ w.heap.size 4 _ _ _ HP5.out
          have p5' := cell_of_row _ w.heap.size 5 _ _ _ HP5.out
          have hac := HAC.out items[i].what items[i].path
          clear hB5
          generalize items[i].path = path at *
          generalize items[i].what = what at *
          by_cases hw : what = 1
          · rw [if_pos hw] at hcn
            have HC := Lib.hid hcn
            subst hw
            clear hcn hnt hac p4' p5' c4' hwr
            go_wp2_with (fail)
            go_roundw
            case rel => exact ⟨i + 1, by omega, by go_num, by rw [HC.out], HBA⟩
            case measure => simp [intOf]; omega
          · rw [if_neg hw] at hcn
            obtain ⟨hk, hnk⟩ := hnt hw
            have hw' : (what == 1) = false := beq_eq_false_iff_ne.2 hw
            obtain ⟨ad', rfl, r0, r1⟩ := chc_at (HR.out.below HBA.out) hk
            rw [hnk] at r0 r1
            simp only at r0 r1
            have HC := Lib.hid hcn
            clear hnt hnk HN
            generalize (outP (items.take i) ⟨merge, prefer, force, batch⟩ []).length = k at *
            generalize (outP items ⟨merge, prefer, force, batch⟩ []).length = n at *
            generalize actP what (progP merge path) ⟨merge, prefer, force, batch⟩ (lookC [] path) = act at *
            have k0' : (0 : Int) ≤ k := by omega
            have k1 : (k : Int) < n := by omega
            have k2 : decide ((n : Int) ≤ (k : Int)) = false := by rw [decide_eq_false_iff_not]; omega
            have k3 : decide (n ≤ k) = false := by rw [decide_eq_false_iff_not]; omega
            have e2 : IntKind.i64.wrap ((k : Int) + 1) = (k : Int) + 1 := IntWalk.i64_in _ (by omega)
            clear hcn c4'
            rcases (show what = 2 ∨ what = 3 ∨ what = 4 by omega) with h | h | h
            · subst h
              rw [hac (by decide)] at r1
              clear hac hwr
              cases batch
              · replace r1 : _ = some (Value.int .i64 0) := r1
                go_wp2_with (fail)
                go_quiet (fail)
                go_wp2_with (fail)
                go_roundw
                case rel => exact ⟨i + 1, by omega, by go_num, by rw [HC.out]; go_num, Lib.hid (below_drewN HBA.out _)⟩
                case measure => simp [intOf]; omega
              · replace r1 : _ = some (Value.int .i64 1) := r1
                go_wp2_with (fail)
                go_quiet (fail)
                go_wp2_with (fail)
                go_roundw
                case rel => exact ⟨i + 1, by omega, by go_num, by rw [HC.out]; go_num, Lib.hid (below_drewN HBA.out _)⟩
                case measure => simp [intOf]; omega
            · subst h
              rw [hac (by decide)] at r1
              clear hac hwr
              cases batch
              · replace r1 : _ = some (Value.int .i64 0) := r1
                go_wp2_with (fail)
                go_quiet (fail)
                go_wp2_with (fail)
                go_roundw
                case rel => exact ⟨i + 1, by omega, by go_num, by rw [HC.out]; go_num, Lib.hid (below_drewN HBA.out _)⟩
                case measure => simp [intOf]; omega
              · replace r1 : _ = some (Value.int .i64 2) := r1
                go_wp2_with (fail)
                go_quiet (fail)
                go_wp2_with (fail)
                go_roundw
                case rel => exact ⟨i + 1, by omega, by go_num, by rw [HC.out]; go_num, Lib.hid (below_drewN HBA.out _)⟩
                case measure => simp [intOf]; omega
            · subst h
              clear hac hwr
              go_wp2_with (fail)
              go_quiet (fail)
              go_wp2_with (fail)
              go_roundw
              case rel => exact ⟨i + 1, by omega, by go_num, by rw [HC.out]; go_num, Lib.hid (below_drewN HBA.out _)⟩
              case measure => simp [intOf]; omega
        · obtain rfl : i = items.length := by omega
          rw [HF.out]
          go_wp2_with (fail)
          go_ret
          exact ⟨by simp, HBW.out⟩
  · have hl := make_len (items := items) (p := p) (ch := []) (by omega)
    rw [he, hl]
    clear HR
    generalize (makeP items p []).2.1 = at_ at *
    go_wp2_with (fail)
    go_ret
    exact ⟨by simp, HB4.out⟩

theorem sum_memW {α : Type} (l : List α) (f : α → Nat) : ∀ x ∈ l, f x ≤ (l.map f).sum := by
  induction l with
  | nil => intro x hx; cases hx
  | cons y l ih =>
    intro x hx
    simp only [List.map_cons, List.sum_cons]
    rcases List.mem_cons.1 hx with rfl | hx
    · omega
    · have := ih x hx; omega

open Go.ChangeShapes Go.WideShapes Go.ChangeAt in
set_option maxRecDepth 100000 in
/-- What the walk gives, for every argument. -/
theorem PlanWays_contract (H : Type) (enc : TypeId × Value → H) (W : World) (base : Nat) (args : Array Value) (ds gs : List (DataW H)) (before : List MemPlace)
    (hval : ∀ (j : Nat) t v, Tryd.f6.params[j]? = some t → args[j]? = some v → Value.okWide Tryd.prog W .any base t v)
    (hW : DataW.Whole enc Tryd.prog Tryd.f6.params.toList Rows.planWaysSpec.vars false W args.toList ds gs before) (hL : laidMetH Tryd.prog Rows.planWaysRow.laid W) (hS : W.ShapedOpen Tryd.prog) (hk : Rows.uptoSmall H (ds ++ gs) = true) :
    Calls Tryd.prog 6 args W fun e W' => ∃ v, e = .returned v ∧ Rows.planWaysSpec.post enc Tryd.prog Tryd.f6 false true false false W args v W' := by
  have hW' := hW
  obtain ⟨p, q, hA0, hV, rfl, hfz, hnd⟩ := hW
  have hA : DataW.TrodAll enc Tryd.prog W 0 (fun _ => true) true Tryd.f6.params.toList args.toList ds p := hA0
  rw [Tryd.params6] at hA hval
  obtain ⟨v0, vs0, d0, ds0, p0, q0, hargs, rfl, rfl, h0, r0⟩ := trodAll_cons hA
  obtain ⟨v1, vs1, d1, ds1, p1, q1, rfl, rfl, rfl, h1, r1⟩ := trodAll_cons r0
  obtain ⟨rfl, rfl, rfl⟩ := trodAll_nil r1
  obtain rfl : args = #[v0, v1] := by cases args; simp_all
  obtain ⟨rfl, rfl⟩ := trodVars_none hV
  obtain ⟨A0, c0, x0, rfl, hc0, hm0, ks0, kd0, kw0⟩ := open_items (hval 0 22 v0 rfl rfl) h0
  obtain ⟨pA1, pn1, pc1, qA1, qn1, qc1, rA1, rc1, p1, f1, rfl, hc1, hm1, ks1, kp1, kf1, kw1⟩ := open_prof (hval 1 26 v1 rfl rfl) h1
  clear hA0
  have hbulk := bulk_bound hk
  simp only [List.cons_append, List.nil_append, List.append_nil, Rows.uptoBulkAll] at hbulk
  obtain ⟨m, hm⟩ := laid_of hL hS
  have hsl := sum_ge x0 (fun o => o.path.length + 1) (by simp)
  have hsm := sum_ge p1.merge (fun o => o.name.length + o.pat.length + 1) (by simp)
  refine (PlanWays_any x0 A0 c0 pA1 pn1 pc1 qA1 qn1 qc1 rA1 rc1 p1 f1 m W hm ks1 (by omega) ks0 (by omega) (fun x hx => ?_)).mono ?_
  · have := sum_memW x0 (fun o => o.path.length + 1) x hx
    omega
  exact fun e W' ⟨he, hb⟩ => ⟨_, he, law_post rfl hW' rfl (by kernel_rfl) Tryd.underlying4 (by kernel_rfl) laidOut hb⟩

open Go.ChangeShapes Go.WideShapes Go.ChangeAt in
theorem PlanWays_met (os : Os) : laidMet Tryd.prog Rows.planWaysUptoRow.laid ((laidWorld os).forCall (fun _ _ => 0) ⟨#[], #[.slice none 0 0, .agg #[.slice none 0 0, .slice none 0 0, .slice none 0 0, .int .i64 0, .int .i64 0, .bool false, .bool false]], []⟩).memory :=
  laidMet_of_run' 8 (by kernel_rfl) (by kernel_rfl)
open Go.ChangeShapes Go.WideShapes Go.ChangeAt in
theorem PlanWays_reads (os : Os) {H : Type} (enc : TypeId × Value → H) : ∃ places, DataW.whole enc Tryd.prog ((laidWorld os).forCall (fun _ _ => 0) ⟨#[], #[.slice none 0 0, .agg #[.slice none 0 0, .slice none 0 0, .slice none 0 0, .int .i64 0, .int .i64 0, .bool false, .bool false]], []⟩).memory Tryd.f6.params.toList Rows.planWaysSpec.vars false #[.slice none 0 0, .agg #[.slice none 0 0, .slice none 0 0, .slice none 0 0, .int .i64 0, .int .i64 0, .bool false, .bool false]].toList 8 = some ([.nil, .agg [.nil, .nil, .nil, .lit (.int .i64 0), .lit (.int .i64 0), .lit (.bool false), .lit (.bool false)]], [], places) :=
  ⟨[], by kernel_rfl⟩

open Go.ChangeShapes Go.WideShapes Go.ChangeAt in
set_option maxRecDepth 100000 in
theorem PlanWays_lifted (os : Os) (started : os.Started) (H : Type) (enc : TypeId × Value → H) (F : Stop.Interp) :
    ReturnsInHanded {} Tryd.checked os 6 .any ((Rows.OpenSpec.upto Rows.planWaysSpec).preRow enc Tryd.prog Tryd.f6 Rows.planWaysUptoRow.domain false Rows.planWaysUptoRow.laid) (((Rows.OpenSpec.upto Rows.planWaysSpec).at F).post enc Tryd.prog Tryd.f6 false true false false) := by
  obtain ⟨places, hx⟩ := PlanWays_reads os enc
  refine returnsInHanded_of_row (C := Tryd.checked) (s := Rows.OpenSpec.upto Rows.planWaysSpec) own started (by kernel_rfl) Tryd.func6
    (witness_row_at (enc := enc) (C := Tryd.checked) false (laidWorld os) #[.slice none 0 0, .agg #[.slice none 0 0, .slice none 0 0, .slice none 0 0, .int .i64 0, .int .i64 0, .bool false, .bool false]] rfl (by kernel_rfl) (by kernel_rfl) (by kernel_rfl)
      (OpenSpec.preRow_of_cond 8 hx (by kernel_rfl) (fun k hk => by cases hk; kernel_rfl) (by kernel_rfl) (PlanWays_met os))) ?_
  intro W base args ds gs before hval hW _ hcond _ hL hS _
  exact PlanWays_contract H enc W base args ds gs before hval hW hL hS (hcond _ rfl)

theorem PlanWays_said : Rows.PlanWaysUptoSaid :=
  OpenClaim.holds_of_cond 6 Tryd.f6 rfl rfl rfl rfl rfl rfl rfl ⟨rfl, rfl, rfl, rfl, rfl⟩ rfl rfl rfl rfl rfl (by kernel_rfl) Tryd.func6 (by kernel_rfl)
    (of_decide_eq_true (by kernel_rfl)) (by unfold Func.isWrapper; first | (rw [if_pos (by decide +kernel)]; kernel_rfl) | (rw [if_neg (by decide +kernel)]; exact ⟨rfl, rfl⟩))
    (fun os started H enc _ F => by rw [OpenClaim.pre_eq_preRow]; exact PlanWays_lifted os started H enc F)

theorem PlanWays_holds : Rows.PlanWaysUptoCardSaid :=
  Claim7.holds_tied_plain_at .later [] _ _ _ _ PlanWays_said (fun _ h => by cases h) (by kernel_rfl) (fun _ h => by cases h) planWaysUpto_row_tie rfl ⟨rfl, rfl⟩ (by kernel_rfl) rfl
    (card_plain (f0 := 6) (fn0 := Tryd.f6) (by kernel_rfl) Tryd.func6 (by kernel_rfl) (by kernel_rfl)) (by kernel_rfl)
end Go.Proofs.YtjhjepkmcbjgoaaDoor
end
