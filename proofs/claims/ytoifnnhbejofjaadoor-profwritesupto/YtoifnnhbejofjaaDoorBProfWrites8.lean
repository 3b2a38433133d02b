/- Texts joined: ProfW6. -/
import Derived.Test.YtoifnnhbejofjaaDoorBProfWrites7
set_option linter.unusedSimpArgs false
set_option linter.unusedVariables false

/- prof.Print. -/
section
set_option linter.unusedVariables false
namespace Go.Proofs.YtoifnnhbejofjaaDoor
open Go.RowKit Plain

set_option maxHeartbeats 8000000 in
set_option maxRecDepth 100000 in
theorem pprint_any (p : PF) (A0 : Option Addr) (c0 : Nat) (A1 : Option Addr) (c1 : Nat) (A2 : Option Addr) (c2 : Nat) (m : Int) (w : World) (hL : LaidP w m) (h : PfAt w A0 c0 A1 c1 A2 c2 p) (hs : SizeP p) :
    Calls Tryd.prog 10 #[pfV A0 c0 A1 c1 A2 c2 p] w (Ret w (.tuple #[.string ⟨(printP p).1.toArray⟩, .int .i64 ((printP p).2 : Nat)])) := by
  have hmf : ∀ (fn : Fn) (first cap : Array Value) (W : World), (Instr.makeFunc fn first cap).run Tryd.prog W = .ok (.func fn first cap) W := fun _ _ _ _ => rfl
  obtain ⟨W0, hW0, hP0⟩ := prAt_start A0 c0 A1 c1 A2 c2 p w
  have HW0 := Lib.hid hW0
  have HP0 := Lib.hid hP0
  have HLP := Lib.hid hL
  have HPF := Lib.hid h
  have HSZ := Lib.hid hs
  have HNO := Lib.hid (fun h => sides_no (p := p) h)
  have HNR := Lib.hid (fun h => rules_all_no (p := p) h)
  have HTX : Hid (okNat p.pre = true → okNat p.frc = true → okRules p.ign = true → okRules p.bak = true → okProgs p.mrg = true → printP p = (batL p.bat ++ fstL p.fst ++ sidesL p 2 ++ rulesL wIgnore wKeep p.ign ++ rulesL wBackup wDrop p.bak ++ progsL p.mrg, 0)) := Lib.hid (fun h1 h2 h3 h4 h5 => by
    rw [print_yes (by unfold printable; rw [h1, h2, h3, h4, h5]; rfl), text_eq])
  generalize printP p = out at *
  clear hW0 hP0 hL h hs
  unfold pfV
  go_enter Tryd.func10, Tryd.ntmps10
  go_upto_region 4 with (fail)
  rw [HW0.out]
  clear HW0
  obtain ⟨bt, hbt⟩ : ∃ b, p.bat = b := ⟨_, rfl⟩
  obtain ⟨a0, a1, a2, a3, a4, a5, a6, a7, a8⟩ := HP0.out.cells
  rw [hbt] at a5 HTX
  have HBT := Lib.hid hbt
  clear hbt
  go_upto_if 15 with (fail)
  clear a0 a1 a2 a3 a4 a5 a6
  go_cut [15] from 16 to 18 (fun t15 W => Hid (PrAt w A0 c0 A1 c1 A2 c2 p (batL bt) true W))
  case first =>
    cases bt with
    | true =>
      have HSAY := Lib.hid (fun W (hW : Below W0.heap.size W0 W) g hg hgo => say_new true [wBatch] g (HP0.out.on hW) hg hgo (by decide) (by decide) (by decide))
      have HZ := Lib.hid HP0.out.size
      go_wp2_with (fail)
      refine (HSAY.out _ ((Below.refl _ _).alloc (Nat.le_refl _) _) W0.heap.size (heap_alloc_new _ _) HZ.out).mono ?_
      rintro e W1 ⟨rfl, h1, -⟩
      have HP1 := Lib.hid h1
      clear h1
      go_wp2_with (fail)
      go_meet
      case rel => exact HP1
    | false =>
      go_wp2_with (fail)
      go_meet
      case rel => exact HP0
  case rest =>
    clear HP0
    obtain ⟨W1, hW1⟩ : ∃ W1, wc = W1 := ⟨_, rfl⟩
    subst hW1
    have HP1 := Lib.hid hcut.out
    clear hcut
    obtain ⟨ft, hft⟩ : ∃ b, p.fst = b := ⟨_, rfl⟩
    obtain ⟨a0, a1, a2, a3, a4, a5, a6, a7, a8⟩ := HP1.out.cells
    rw [hft] at a6 HTX
    have HFT := Lib.hid hft
    clear hft
    go_upto_if 20 with (fail)
    clear a0 a1 a2 a3 a4 a5 a6
    go_cut [20] from 21 to 23 (fun t20 W => Hid (PrAt w A0 c0 A1 c1 A2 c2 p (batL bt ++ fstL ft) true W))
    case first =>
      cases ft with
      | true =>
        have HSAY := Lib.hid (fun W (hW : Below wc.heap.size wc W) g hg hgo => say_new true [wFast] g (HP1.out.on hW) hg hgo (by decide) (by decide) (by cases bt <;> decide))
        have HZ := Lib.hid HP1.out.size
        go_wp2_with (fail)
        refine (HSAY.out _ ((Below.refl _ _).alloc (Nat.le_refl _) _) wc.heap.size (heap_alloc_new _ _) HZ.out).mono ?_
        rintro e W1 ⟨rfl, h1, -⟩
        have HP2 := Lib.hid h1
        clear h1
        go_wp2_with (fail)
        go_meet
        case rel => exact HP2
      | false =>
        have HP2 : Hid (PrAt w A0 c0 A1 c1 A2 c2 p (batL bt ++ fstL false) true wc) := Lib.hid (by rw [show fstL false = [] from rfl, List.append_nil]; exact HP1.out)
        go_wp2_with (fail)
        go_meet
        case rel => exact HP2
    case rest =>
      clear HP1
      have HP2 := Lib.hid hcut.out
      clear hcut
      obtain ⟨W2, hW2⟩ : ∃ W2, (wc.alloc (.cells #[.string ⟨#[]⟩, .string ⟨#[97]⟩, .string ⟨#[98]⟩] 9)).alloc (.cells #[.int .i64 p.pre, .int .i64 p.frc] 3) = W2 := ⟨_, rfl⟩
      have hb2 : Below wc.heap.size wc W2 := by rw [← hW2]; exact ((Below.refl _ _).alloc (Nat.le_refl _) _).alloc (by simp) _
      have hr1 : W2.heap[wc.heap.size]? = some (.cells #[.string ⟨#[]⟩, .string ⟨#[97]⟩, .string ⟨#[98]⟩] 9 (0, 0)) := by rw [← hW2, Below.heap_alloc _ _ _ (by simp)]; exact heap_alloc_new _ _
      have hr2 : W2.heap[wc.heap.size + 1]? = some (.cells #[.int .i64 p.pre, .int .i64 p.frc] 3 (0, 0)) := by
        rw [← hW2]
        have := heap_alloc_new (wc.alloc (.cells #[.string ⟨#[]⟩, .string ⟨#[97]⟩, .string ⟨#[98]⟩] 9)) (.cells #[.int .i64 p.pre, .int .i64 p.frc] 3)
        simpa using this
      have HP3 := Lib.hid (HP2.out.on hb2)
      have HR1 := Lib.hid hr1
      have HR2 := Lib.hid hr2
      have HW2 := Lib.hid hW2
      have hgz := HP2.out.size
      obtain ⟨a0, a1, a2, a3, a4, a5, a6, a7, a8⟩ := HP2.out.cells
      have hz0 : w.heap.size < wc.heap.size := by omega
      clear hW2 hb2 hr1 hr2
      go_upto_region 10 with (fail)
      rw [HW2.out]
      clear HW2 a0 a1 a2 a3 a4 a5 a6 a7 a8 HP2
      generalize wc.heap.size = gs at *
      obtain ⟨H, hH⟩ : ∃ H, batL bt ++ fstL ft = H := ⟨_, rfl⟩
      rw [hH] at HP3 HTX
      have hHl : H.length ≤ 100 := by rw [← hH]; cases bt <;> cases ft <;> decide
      have HH := Lib.hid hH
      have HGZ := Lib.hid hgz
      clear hH HBT HFT hgz
      go_loopw [31] (fun t31 W => ∃ i : Nat, i ≤ 2 ∧ t31 = .int .i64 i ∧ Hid (PrAt w A0 c0 A1 c1 A2 c2 p (H ++ sidesL p i) true W) ∧ Hid (W.heap[gs]? = some (.cells #[.string ⟨#[]⟩, .string ⟨#[97]⟩, .string ⟨#[98]⟩] 9 (0, 0))) ∧ Hid (W.heap[gs + 1]? = some (.cells #[.int .i64 p.pre, .int .i64 p.frc] 3 (0, 0))) ∧ Hid ((1 ≤ i → okNat p.pre = true) ∧ (2 ≤ i → okNat p.frc = true))) (fun t31 _ => 2 - (intOf t31).toNat)
      case atStart => exact ⟨0, by omega, rfl, by rw [show sidesL p 0 = [] from rfl, List.append_nil]; exact HP3, HR1, HR2, Lib.hid ⟨fun h => by omega, fun h => by omega⟩⟩
      case round =>
        clear HP3 HR1 HR2
        obtain ⟨i, hi, rfl, HP, HR1, HR2, HOK⟩ := hrel
        have hcase : i = 0 ∨ i = 1 ∨ i = 2 := by omega
        rcases hcase with rfl | rfl | rfl
        · obtain ⟨n, hn⟩ : ∃ n, p.pre = n := ⟨_, rfl⟩
          obtain ⟨a0, a1, a2, a3, a4, a5, a6, a7, a8⟩ := HP.out.cells
          clear a0 a1 a2 a3 a4 a5 a6 a7
          have d0 : wr.cell? ⟨gs + 1, 0, none⟩ = some (.int .i64 n) := by rw [cell_of_row _ _ 0 _ _ _ HR2.out, ← hn]; rfl
          have HN := Lib.hid hn
          clear hn hi
          by_cases hneg : n < 0
          · have g1 : decide (n < 0) = true := by rw [decide_eq_true_eq]; exact hneg
            have HO : Hid (out = ([], 80)) := Lib.hid (HNO.out (Or.inl (by rw [HN.out]; exact okNat_bad (Or.inl hneg))))
            clear hneg
            go_wp2_with (fail)
            go_ret2
            exact ⟨by rw [HO.out]; rfl, HP.out.below⟩
          · have g1 : decide (n < 0) = false := by rw [decide_eq_false_iff_not]; exact hneg
            by_cases hbig : 2 < n
            · have g2 : decide (2 < n) = true := by rw [decide_eq_true_eq]; exact hbig
              have HO : Hid (out = ([], 80)) := Lib.hid (HNO.out (Or.inl (by rw [HN.out]; exact okNat_bad (Or.inr hbig))))
              clear hneg hbig
              go_wp2_with (fail)
              go_ret2
              exact ⟨by rw [HO.out]; rfl, HP.out.below⟩
            · have hc : n = 0 ∨ n = 1 ∨ n = 2 := by omega
              clear g1
              rcases hc with rfl | rfl | rfl
              · have HP1 : Hid (PrAt w A0 c0 A1 c1 A2 c2 p (H ++ sidesL p 1) true wr) := Lib.hid (by
                  have h0 := HP.out
                  have e : H ++ sidesL p 0 = H ++ sidesL p 1 := by
                    rw [show sidesL p 0 = [] from rfl, sides_one HN.out, List.append_nil]
                    simp [sidedL]
                  rw [e] at h0
                  exact h0)
                go_wp2_with (fail)
                go_roundw
                case rel => exact ⟨1, by omega, by go_num, HP1, HR1, HR2, Lib.hid ⟨fun _ => by rw [HN.out]; decide, fun h => by omega⟩⟩
                case measure => simp [intOf]
              · have HLN : Hid (H ++ sidesL p 0 ++ (Lib.join [wPrefer, [97]] [32] ++ [10]) = H ++ sidesL p 1) := Lib.hid (by
                  rw [show sidesL p 0 = [] from rfl, sides_one HN.out, List.append_nil]
                  rw [join_two]
                  simp [sidedL])
                have hlen := sides_le p 0
                have HSAY : Hid (∀ (W : World) (g : Nat), Below wr.heap.size wr W → W.heap[g]? = some (.cells #[.string ⟨#[112, 114, 101, 102, 101, 114]⟩, .string ⟨#[97]⟩] 9 (0, 0)) → wr.heap.size ≤ g →
                    Calls Tryd.prog 17 #[.bool true, .slice (some ⟨g, 0, none⟩) 2 2, .pointer (some ⟨w.heap.size + 1 + 1, 0, none⟩), .pointer (some ⟨w.heap.size + 1, 0, none⟩)] W fun e w' => e = .returned (.tuple #[]) ∧ (PrAt w A0 c0 A1 c1 A2 c2 p (H ++ sidesL p 1) true w' ∧ w'.heap[gs]? = some (.cells #[.string ⟨#[]⟩, .string ⟨#[97]⟩, .string ⟨#[98]⟩] 9 (0, 0)) ∧ w'.heap[gs + 1]? = some (.cells #[.int .i64 p.pre, .int .i64 p.frc] 3 (0, 0))) ∧ (w'.cell? ⟨w.heap.size + 1 + 1 + 1, 0, none⟩ = some (.func (.func 17) #[] #[.pointer (some ⟨w.heap.size + 1 + 1, 0, none⟩), .pointer (some ⟨w.heap.size + 1, 0, none⟩)]) ∧ w'.cell? ⟨gs, 1, none⟩ = some (.string ⟨#[97]⟩))) := Lib.hid (fun W g hW hg hgo => by
                  have hz := HP.out.size
                  have q1 := (Array.getElem?_eq_some_iff.1 HR1.out).1
                  have q2 := (Array.getElem?_eq_some_iff.1 HR2.out).1
                  refine (say_new true [wPrefer, [97]] g (HP.out.on hW) hg (by omega) (by decide) (by decide) (by simp; omega)).mono ?_
                  rintro e w' ⟨he, h1, h2⟩
                  rw [HLN.out] at h1
                  have r1 := h2 gs _ ((hW.block _ q1).trans HR1.out) (by have := HGZ.out; omega) (by have := HGZ.out; omega) (fun c fz h => by injection h with _ h2 _; revert h2; decide)
                  have r2 := h2 (gs + 1) _ ((hW.block _ q2).trans HR2.out) (by have := HGZ.out; omega) (by have := HGZ.out; omega) (fun c fz h => by injection h with _ h2 _; revert h2; decide)
                  exact ⟨he, ⟨h1, r1, r2⟩, h1.cells.2.2.2.2.2.2.2.2, cell_of_row _ _ 1 _ _ _ r1⟩)
                have HCL : Hid (∀ W, Below wr.heap.size wr W → W.cell? ⟨w.heap.size + 1 + 1 + 1, 0, none⟩ = some (.func (.func 17) #[] #[.pointer (some ⟨w.heap.size + 1 + 1, 0, none⟩), .pointer (some ⟨w.heap.size + 1, 0, none⟩)]) ∧ W.cell? ⟨gs, 1, none⟩ = some (.string ⟨#[97]⟩)) := Lib.hid (fun W hW => ⟨(HP.out.on hW).cells.2.2.2.2.2.2.2.2, cell_of_row _ _ 1 _ _ _ ((hW.block _ (Array.getElem?_eq_some_iff.1 HR1.out).1).trans HR1.out)⟩)
                have HLT := Lib.hid hlen
                clear hneg hbig hlen
                go_upto_region 15 with (fail)
                have d1 := (HCL.out wr (Below.refl _ _)).2
                have b1 : gs < wr.heap.size := (Array.getElem?_eq_some_iff.1 HR1.out).1
                have b2 : w.heap.size + 1 + 1 + 1 < wr.heap.size := by have := HP.out.size; omega
                have b3 : gs < wr.heap.size + 1 := by omega
                have b4 : w.heap.size + 1 + 1 + 1 < wr.heap.size + 1 := by omega
                have hB2 : Below wr.heap.size wr (((wr.alloc (.cells #[.string ⟨#[112, 114, 101, 102, 101, 114]⟩, .string ⟨#[102, 111, 114, 99, 101]⟩] 9)).alloc (.cells #[.string ⟨#[112, 114, 101, 102, 101, 114]⟩, .string ⟨#[97]⟩] 9)).drew) := (((Below.refl _ _).alloc (Nat.le_refl _) _).alloc (by simp) _).trans (drewB _ _)
                have hN2 : (((wr.alloc (.cells #[.string ⟨#[112, 114, 101, 102, 101, 114]⟩, .string ⟨#[102, 111, 114, 99, 101]⟩] 9)).alloc (.cells #[.string ⟨#[112, 114, 101, 102, 101, 114]⟩, .string ⟨#[97]⟩] 9)).drew).heap[wr.heap.size + 1]? = some (.cells #[.string ⟨#[112, 114, 101, 102, 101, 114]⟩, .string ⟨#[97]⟩] 9 (0, 0)) := by
                  have h0 := heap_alloc_new (wr.alloc (.cells #[.string ⟨#[112, 114, 101, 102, 101, 114]⟩, .string ⟨#[102, 111, 114, 99, 101]⟩] 9)) (.cells #[.string ⟨#[112, 114, 101, 102, 101, 114]⟩, .string ⟨#[97]⟩] 9)
                  rw [World.size_alloc] at h0
                  exact h0
                have HCA := Lib.hid (HSAY.out _ (wr.heap.size + 1) hB2 hN2 (by omega))
                clear hB2 hN2 HSAY
                go_region_with (go_at_call 17; refine HCA.out.mono ?_; rintro e w10 ⟨rfl, h10, s6⟩; have HS10 := Lib.hid h10; clear h10)
                all_goals
                  go_wp2_with (fail)
                  go_roundw
                  case rel => exact ⟨1, by omega, by go_num, Lib.hid HS10.out.1, Lib.hid HS10.out.2.1, Lib.hid HS10.out.2.2, Lib.hid ⟨fun _ => by rw [HN.out]; decide, fun h => by omega⟩⟩
                  case measure => simp [intOf]
              · have HLN : Hid (H ++ sidesL p 0 ++ (Lib.join [wPrefer, [98]] [32] ++ [10]) = H ++ sidesL p 1) := Lib.hid (by
                  rw [show sidesL p 0 = [] from rfl, sides_one HN.out, List.append_nil]
                  rw [join_two]
                  simp [sidedL])
                have hlen := sides_le p 0
                have HSAY : Hid (∀ (W : World) (g : Nat), Below wr.heap.size wr W → W.heap[g]? = some (.cells #[.string ⟨#[112, 114, 101, 102, 101, 114]⟩, .string ⟨#[98]⟩] 9 (0, 0)) → wr.heap.size ≤ g →
                    Calls Tryd.prog 17 #[.bool true, .slice (some ⟨g, 0, none⟩) 2 2, .pointer (some ⟨w.heap.size + 1 + 1, 0, none⟩), .pointer (some ⟨w.heap.size + 1, 0, none⟩)] W fun e w' => e = .returned (.tuple #[]) ∧ (PrAt w A0 c0 A1 c1 A2 c2 p (H ++ sidesL p 1) true w' ∧ w'.heap[gs]? = some (.cells #[.string ⟨#[]⟩, .string ⟨#[97]⟩, .string ⟨#[98]⟩] 9 (0, 0)) ∧ w'.heap[gs + 1]? = some (.cells #[.int .i64 p.pre, .int .i64 p.frc] 3 (0, 0))) ∧ (w'.cell? ⟨w.heap.size + 1 + 1 + 1, 0, none⟩ = some (.func (.func 17) #[] #[.pointer (some ⟨w.heap.size + 1 + 1, 0, none⟩), .pointer (some ⟨w.heap.size + 1, 0, none⟩)]) ∧ w'.cell? ⟨gs, 2, none⟩ = some (.string ⟨#[98]⟩))) := Lib.hid (fun W g hW hg hgo => by
                  have hz := HP.out.size
                  have q1 := (Array.getElem?_eq_some_iff.1 HR1.out).1
                  have q2 := (Array.getElem?_eq_some_iff.1 HR2.out).1
                  refine (say_new true [wPrefer, [98]] g (HP.out.on hW) hg (by omega) (by decide) (by decide) (by simp; omega)).mono ?_
                  rintro e w' ⟨he, h1, h2⟩
                  rw [HLN.out] at h1
                  have r1 := h2 gs _ ((hW.block _ q1).trans HR1.out) (by have := HGZ.out; omega) (by have := HGZ.out; omega) (fun c fz h => by injection h with _ h2 _; revert h2; decide)
                  have r2 := h2 (gs + 1) _ ((hW.block _ q2).trans HR2.out) (by have := HGZ.out; omega) (by have := HGZ.out; omega) (fun c fz h => by injection h with _ h2 _; revert h2; decide)
                  exact ⟨he, ⟨h1, r1, r2⟩, h1.cells.2.2.2.2.2.2.2.2, cell_of_row _ _ 2 _ _ _ r1⟩)
                have HCL : Hid (∀ W, Below wr.heap.size wr W → W.cell? ⟨w.heap.size + 1 + 1 + 1, 0, none⟩ = some (.func (.func 17) #[] #[.pointer (some ⟨w.heap.size + 1 + 1, 0, none⟩), .pointer (some ⟨w.heap.size + 1, 0, none⟩)]) ∧ W.cell? ⟨gs, 2, none⟩ = some (.string ⟨#[98]⟩)) := Lib.hid (fun W hW => ⟨(HP.out.on hW).cells.2.2.2.2.2.2.2.2, cell_of_row _ _ 2 _ _ _ ((hW.block _ (Array.getElem?_eq_some_iff.1 HR1.out).1).trans HR1.out)⟩)
                have HLT := Lib.hid hlen
                clear hneg hbig hlen
                go_upto_region 15 with (fail)
                have d1 := (HCL.out wr (Below.refl _ _)).2
                have b1 : gs < wr.heap.size := (Array.getElem?_eq_some_iff.1 HR1.out).1
                have b2 : w.heap.size + 1 + 1 + 1 < wr.heap.size := by have := HP.out.size; omega
                have b3 : gs < wr.heap.size + 1 := by omega
                have b4 : w.heap.size + 1 + 1 + 1 < wr.heap.size + 1 := by omega
                have hB2 : Below wr.heap.size wr (((wr.alloc (.cells #[.string ⟨#[112, 114, 101, 102, 101, 114]⟩, .string ⟨#[102, 111, 114, 99, 101]⟩] 9)).alloc (.cells #[.string ⟨#[112, 114, 101, 102, 101, 114]⟩, .string ⟨#[98]⟩] 9)).drew) := (((Below.refl _ _).alloc (Nat.le_refl _) _).alloc (by simp) _).trans (drewB _ _)
                have hN2 : (((wr.alloc (.cells #[.string ⟨#[112, 114, 101, 102, 101, 114]⟩, .string ⟨#[102, 111, 114, 99, 101]⟩] 9)).alloc (.cells #[.string ⟨#[112, 114, 101, 102, 101, 114]⟩, .string ⟨#[98]⟩] 9)).drew).heap[wr.heap.size + 1]? = some (.cells #[.string ⟨#[112, 114, 101, 102, 101, 114]⟩, .string ⟨#[98]⟩] 9 (0, 0)) := by
                  have h0 := heap_alloc_new (wr.alloc (.cells #[.string ⟨#[112, 114, 101, 102, 101, 114]⟩, .string ⟨#[102, 111, 114, 99, 101]⟩] 9)) (.cells #[.string ⟨#[112, 114, 101, 102, 101, 114]⟩, .string ⟨#[98]⟩] 9)
                  rw [World.size_alloc] at h0
                  exact h0
                have HCA := Lib.hid (HSAY.out _ (wr.heap.size + 1) hB2 hN2 (by omega))
                clear hB2 hN2 HSAY
                go_region_with (go_at_call 17; refine HCA.out.mono ?_; rintro e w10 ⟨rfl, h10, s6⟩; have HS10 := Lib.hid h10; clear h10)
                all_goals
                  go_wp2_with (fail)
                  go_roundw
                  case rel => exact ⟨1, by omega, by go_num, Lib.hid HS10.out.1, Lib.hid HS10.out.2.1, Lib.hid HS10.out.2.2, Lib.hid ⟨fun _ => by rw [HN.out]; decide, fun h => by omega⟩⟩
                  case measure => simp [intOf]
        · obtain ⟨n, hn⟩ : ∃ n, p.frc = n := ⟨_, rfl⟩
          obtain ⟨a0, a1, a2, a3, a4, a5, a6, a7, a8⟩ := HP.out.cells
          clear a0 a1 a2 a3 a4 a5 a6 a7
          have d0 : wr.cell? ⟨gs + 1, 1, none⟩ = some (.int .i64 n) := by rw [cell_of_row _ _ 1 _ _ _ HR2.out, ← hn]; rfl
          have HN := Lib.hid hn
          clear hn hi
          by_cases hneg : n < 0
          · have g1 : decide (n < 0) = true := by rw [decide_eq_true_eq]; exact hneg
            have HO : Hid (out = ([], 80)) := Lib.hid (HNO.out (Or.inr (by rw [HN.out]; exact okNat_bad (Or.inl hneg))))
            clear hneg
            go_wp2_with (fail)
            go_ret2
            exact ⟨by rw [HO.out]; rfl, HP.out.below⟩
          · have g1 : decide (n < 0) = false := by rw [decide_eq_false_iff_not]; exact hneg
            by_cases hbig : 2 < n
            · have g2 : decide (2 < n) = true := by rw [decide_eq_true_eq]; exact hbig
              have HO : Hid (out = ([], 80)) := Lib.hid (HNO.out (Or.inr (by rw [HN.out]; exact okNat_bad (Or.inr hbig))))
              clear hneg hbig
              go_wp2_with (fail)
              go_ret2
              exact ⟨by rw [HO.out]; rfl, HP.out.below⟩
            · have hc : n = 0 ∨ n = 1 ∨ n = 2 := by omega
              clear g1
              rcases hc with rfl | rfl | rfl
              · have HP1 : Hid (PrAt w A0 c0 A1 c1 A2 c2 p (H ++ sidesL p 2) true wr) := Lib.hid (by
                  have h0 := HP.out
                  have e : H ++ sidesL p 1 = H ++ sidesL p 2 := by
                    rw [sides_two HN.out]
                    simp [sidedL]
                  rw [e] at h0
                  exact h0)
                go_wp2_with (fail)
                go_roundw
                case rel => exact ⟨2, by omega, by go_num, HP1, HR1, HR2, Lib.hid ⟨fun _ => HOK.out.1 (by omega), fun _ => by rw [HN.out]; decide⟩⟩
                case measure => simp [intOf]
              · have HLN : Hid (H ++ sidesL p 1 ++ (Lib.join [wForce, [97]] [32] ++ [10]) = H ++ sidesL p 2) := Lib.hid (by
                  rw [sides_two HN.out]
                  rw [join_two]
                  simp [sidedL])
                have hlen := sides_le p 1
                have HSAY : Hid (∀ (W : World) (g : Nat), Below wr.heap.size wr W → W.heap[g]? = some (.cells #[.string ⟨#[102, 111, 114, 99, 101]⟩, .string ⟨#[97]⟩] 9 (0, 0)) → wr.heap.size ≤ g →
                    Calls Tryd.prog 17 #[.bool true, .slice (some ⟨g, 0, none⟩) 2 2, .pointer (some ⟨w.heap.size + 1 + 1, 0, none⟩), .pointer (some ⟨w.heap.size + 1, 0, none⟩)] W fun e w' => e = .returned (.tuple #[]) ∧ (PrAt w A0 c0 A1 c1 A2 c2 p (H ++ sidesL p 2) true w' ∧ w'.heap[gs]? = some (.cells #[.string ⟨#[]⟩, .string ⟨#[97]⟩, .string ⟨#[98]⟩] 9 (0, 0)) ∧ w'.heap[gs + 1]? = some (.cells #[.int .i64 p.pre, .int .i64 p.frc] 3 (0, 0))) ∧ (w'.cell? ⟨w.heap.size + 1 + 1 + 1, 0, none⟩ = some (.func (.func 17) #[] #[.pointer (some ⟨w.heap.size + 1 + 1, 0, none⟩), .pointer (some ⟨w.heap.size + 1, 0, none⟩)]) ∧ w'.cell? ⟨gs, 1, none⟩ = some (.string ⟨#[97]⟩))) := Lib.hid (fun W g hW hg hgo => by
                  have hz := HP.out.size
                  have q1 := (Array.getElem?_eq_some_iff.1 HR1.out).1
                  have q2 := (Array.getElem?_eq_some_iff.1 HR2.out).1
                  refine (say_new true [wForce, [97]] g (HP.out.on hW) hg (by omega) (by decide) (by decide) (by simp; omega)).mono ?_
                  rintro e w' ⟨he, h1, h2⟩
                  rw [HLN.out] at h1
                  have r1 := h2 gs _ ((hW.block _ q1).trans HR1.out) (by have := HGZ.out; omega) (by have := HGZ.out; omega) (fun c fz h => by injection h with _ h2 _; revert h2; decide)
                  have r2 := h2 (gs + 1) _ ((hW.block _ q2).trans HR2.out) (by have := HGZ.out; omega) (by have := HGZ.out; omega) (fun c fz h => by injection h with _ h2 _; revert h2; decide)
                  exact ⟨he, ⟨h1, r1, r2⟩, h1.cells.2.2.2.2.2.2.2.2, cell_of_row _ _ 1 _ _ _ r1⟩)
                have HCL : Hid (∀ W, Below wr.heap.size wr W → W.cell? ⟨w.heap.size + 1 + 1 + 1, 0, none⟩ = some (.func (.func 17) #[] #[.pointer (some ⟨w.heap.size + 1 + 1, 0, none⟩), .pointer (some ⟨w.heap.size + 1, 0, none⟩)]) ∧ W.cell? ⟨gs, 1, none⟩ = some (.string ⟨#[97]⟩)) := Lib.hid (fun W hW => ⟨(HP.out.on hW).cells.2.2.2.2.2.2.2.2, cell_of_row _ _ 1 _ _ _ ((hW.block _ (Array.getElem?_eq_some_iff.1 HR1.out).1).trans HR1.out)⟩)
                have HLT := Lib.hid hlen
                clear hneg hbig hlen
                go_upto_region 15 with (fail)
                have d1 := (HCL.out wr (Below.refl _ _)).2
                have b1 : gs < wr.heap.size := (Array.getElem?_eq_some_iff.1 HR1.out).1
                have b2 : w.heap.size + 1 + 1 + 1 < wr.heap.size := by have := HP.out.size; omega
                have b3 : gs < wr.heap.size + 1 := by omega
                have b4 : w.heap.size + 1 + 1 + 1 < wr.heap.size + 1 := by omega
                have hB2 : Below wr.heap.size wr (((wr.alloc (.cells #[.string ⟨#[112, 114, 101, 102, 101, 114]⟩, .string ⟨#[102, 111, 114, 99, 101]⟩] 9)).alloc (.cells #[.string ⟨#[102, 111, 114, 99, 101]⟩, .string ⟨#[97]⟩] 9)).drew) := (((Below.refl _ _).alloc (Nat.le_refl _) _).alloc (by simp) _).trans (drewB _ _)
                have hN2 : (((wr.alloc (.cells #[.string ⟨#[112, 114, 101, 102, 101, 114]⟩, .string ⟨#[102, 111, 114, 99, 101]⟩] 9)).alloc (.cells #[.string ⟨#[102, 111, 114, 99, 101]⟩, .string ⟨#[97]⟩] 9)).drew).heap[wr.heap.size + 1]? = some (.cells #[.string ⟨#[102, 111, 114, 99, 101]⟩, .string ⟨#[97]⟩] 9 (0, 0)) := by
                  have h0 := heap_alloc_new (wr.alloc (.cells #[.string ⟨#[112, 114, 101, 102, 101, 114]⟩, .string ⟨#[102, 111, 114, 99, 101]⟩] 9)) (.cells #[.string ⟨#[102, 111, 114, 99, 101]⟩, .string ⟨#[97]⟩] 9)
                  rw [World.size_alloc] at h0
                  exact h0
                have HCA := Lib.hid (HSAY.out _ (wr.heap.size + 1) hB2 hN2 (by omega))
                clear hB2 hN2 HSAY
                go_region_with (go_at_call 17; refine HCA.out.mono ?_; rintro e w10 ⟨rfl, h10, s6⟩; have HS10 := Lib.hid h10; clear h10)
                all_goals
                  go_wp2_with (fail)
                  go_roundw
                  case rel => exact ⟨2, by omega, by go_num, Lib.hid HS10.out.1, Lib.hid HS10.out.2.1, Lib.hid HS10.out.2.2, Lib.hid ⟨fun _ => HOK.out.1 (by omega), fun _ => by rw [HN.out]; decide⟩⟩
                  case measure => simp [intOf]
              · have HLN : Hid (H ++ sidesL p 1 ++ (Lib.join [wForce, [98]] [32] ++ [10]) = H ++ sidesL p 2) := Lib.hid (by
                  rw [sides_two HN.out]
                  rw [join_two]
                  simp [sidedL])
                have hlen := sides_le p 1
                have HSAY : Hid (∀ (W : World) (g : Nat), Below wr.heap.size wr W → W.heap[g]? = some (.cells #[.string ⟨#[102, 111, 114, 99, 101]⟩, .string ⟨#[98]⟩] 9 (0, 0)) → wr.heap.size ≤ g →
                    Calls Tryd.prog 17 #[.bool true, .slice (some ⟨g, 0, none⟩) 2 2, .pointer (some ⟨w.heap.size + 1 + 1, 0, none⟩), .pointer (some ⟨w.heap.size + 1, 0, none⟩)] W fun e w' => e = .returned (.tuple #[]) ∧ (PrAt w A0 c0 A1 c1 A2 c2 p (H ++ sidesL p 2) true w' ∧ w'.heap[gs]? = some (.cells #[.string ⟨#[]⟩, .string ⟨#[97]⟩, .string ⟨#[98]⟩] 9 (0, 0)) ∧ w'.heap[gs + 1]? = some (.cells #[.int .i64 p.pre, .int .i64 p.frc] 3 (0, 0))) ∧ (w'.cell? ⟨w.heap.size + 1 + 1 + 1, 0, none⟩ = some (.func (.func 17) #[] #[.pointer (some ⟨w.heap.size + 1 + 1, 0, none⟩), .pointer (some ⟨w.heap.size + 1, 0, none⟩)]) ∧ w'.cell? ⟨gs, 2, none⟩ = some (.string ⟨#[98]⟩))) := Lib.hid (fun W g hW hg hgo => by
                  have hz := HP.out.size
                  have q1 := (Array.getElem?_eq_some_iff.1 HR1.out).1
                  have q2 := (Array.getElem?_eq_some_iff.1 HR2.out).1
                  refine (say_new true [wForce, [98]] g (HP.out.on hW) hg (by omega) (by decide) (by decide) (by simp; omega)).mono ?_
                  rintro e w' ⟨he, h1, h2⟩
                  rw [HLN.out] at h1
                  have r1 := h2 gs _ ((hW.block _ q1).trans HR1.out) (by have := HGZ.out; omega) (by have := HGZ.out; omega) (fun c fz h => by injection h with _ h2 _; revert h2; decide)
                  have r2 := h2 (gs + 1) _ ((hW.block _ q2).trans HR2.out) (by have := HGZ.out; omega) (by have := HGZ.out; omega) (fun c fz h => by injection h with _ h2 _; revert h2; decide)
                  exact ⟨he, ⟨h1, r1, r2⟩, h1.cells.2.2.2.2.2.2.2.2, cell_of_row _ _ 2 _ _ _ r1⟩)
                have HCL : Hid (∀ W, Below wr.heap.size wr W → W.cell? ⟨w.heap.size + 1 + 1 + 1, 0, none⟩ = some (.func (.func 17) #[] #[.pointer (some ⟨w.heap.size + 1 + 1, 0, none⟩), .pointer (some ⟨w.heap.size + 1, 0, none⟩)]) ∧ W.cell? ⟨gs, 2, none⟩ = some (.string ⟨#[98]⟩)) := Lib.hid (fun W hW => ⟨(HP.out.on hW).cells.2.2.2.2.2.2.2.2, cell_of_row _ _ 2 _ _ _ ((hW.block _ (Array.getElem?_eq_some_iff.1 HR1.out).1).trans HR1.out)⟩)
                have HLT := Lib.hid hlen
                clear hneg hbig hlen
                go_upto_region 15 with (fail)
                have d1 := (HCL.out wr (Below.refl _ _)).2
                have b1 : gs < wr.heap.size := (Array.getElem?_eq_some_iff.1 HR1.out).1
                have b2 : w.heap.size + 1 + 1 + 1 < wr.heap.size := by have := HP.out.size; omega
                have b3 : gs < wr.heap.size + 1 := by omega
                have b4 : w.heap.size + 1 + 1 + 1 < wr.heap.size + 1 := by omega
                have hB2 : Below wr.heap.size wr (((wr.alloc (.cells #[.string ⟨#[112, 114, 101, 102, 101, 114]⟩, .string ⟨#[102, 111, 114, 99, 101]⟩] 9)).alloc (.cells #[.string ⟨#[102, 111, 114, 99, 101]⟩, .string ⟨#[98]⟩] 9)).drew) := (((Below.refl _ _).alloc (Nat.le_refl _) _).alloc (by simp) _).trans (drewB _ _)
                have hN2 : (((wr.alloc (.cells #[.string ⟨#[112, 114, 101, 102, 101, 114]⟩, .string ⟨#[102, 111, 114, 99, 101]⟩] 9)).alloc (.cells #[.string ⟨#[102, 111, 114, 99, 101]⟩, .string ⟨#[98]⟩] 9)).drew).heap[wr.heap.size + 1]? = some (.cells #[.string ⟨#[102, 111, 114, 99, 101]⟩, .string ⟨#[98]⟩] 9 (0, 0)) := by
                  have h0 := heap_alloc_new (wr.alloc (.cells #[.string ⟨#[112, 114, 101, 102, 101, 114]⟩, .string ⟨#[102, 111, 114, 99, 101]⟩] 9)) (.cells #[.string ⟨#[102, 111, 114, 99, 101]⟩, .string ⟨#[98]⟩] 9)
                  rw [World.size_alloc] at h0
                  exact h0
                have HCA := Lib.hid (HSAY.out _ (wr.heap.size + 1) hB2 hN2 (by omega))
                clear hB2 hN2 HSAY
                go_region_with (go_at_call 17; refine HCA.out.mono ?_; rintro e w10 ⟨rfl, h10, s6⟩; have HS10 := Lib.hid h10; clear h10)
                all_goals
                  go_wp2_with (fail)
                  go_roundw
                  case rel => exact ⟨2, by omega, by go_num, Lib.hid HS10.out.1, Lib.hid HS10.out.2.1, Lib.hid HS10.out.2.2, Lib.hid ⟨fun _ => HOK.out.1 (by omega), fun _ => by rw [HN.out]; decide⟩⟩
                  case measure => simp [intOf]
        · obtain ⟨a0, a1, a2, a3, a4, a5, a6, a7, a8⟩ := HP.out.cells
          have HOK1 := Lib.hid (HOK.out.1 (by omega))
          have HOK2 := Lib.hid (HOK.out.2 (by omega))
          have hT : ∀ W, Below (w.heap.size + 1) wr W → Tabs W := fun W hW => (HLP.out.below (HP.out.below.trans (hW.mono (by omega)))).laid.1
          have hB0 : ∀ W, Below (w.heap.size + 1) wr W → Below w.heap.size w W := fun W hW => HP.out.below.trans (hW.mono (by omega))
          have hs0 := HP.out.size
          obtain ⟨S2, hS2⟩ : ∃ S, H ++ sidesL p 2 = S := ⟨_, rfl⟩
          have hl2 : S2.length ≤ 200 := by rw [← hS2, List.length_append]; have := sides_le p 2; omega
          rw [hS2] at HP HTX
          have HCA := Lib.hid (show Calls Tryd.prog 20 #[.slice A0 p.ign.length c0, .string ⟨#[107, 101, 101, 112]⟩, .string ⟨#[105, 103, 110, 111, 114, 101]⟩, .pointer (some ⟨w.heap.size + 1 + 1 + 1, 0, none⟩)] wr _ from prules_any p.ign A0 c0 wKeep wIgnore (w.heap.size + 1 + 1) (w.heap.size + 1) (w.heap.size + 1 + 1 + 1) (w.heap.size + 1) S2 true wr hT (fun W hW => HPF.out.ign.below (hB0 W hW)) HP.out.fn ⟨HP.out.bld, HP.out.ok, Below.refl _ _, Kept2.refl _ _ _⟩ (by omega) (by omega) (by omega) (by omega) (by omega) (by omega) (by decide) (by decide) HSZ.out.ign.1 HSZ.out.ign.2)
          have hS2l := rulesL_length wIgnore wKeep (by decide) (by decide) p.ign HSZ.out.ign.2
          have hS3l := rulesL_length wBackup wDrop (by decide) (by decide) p.bak HSZ.out.bak.2
          have hig := HSZ.out.ign.1
          have hbk := HSZ.out.bak.1
          clear hT hB0 hS2 HOK HR1 HR2 hi a1 a2 a3 a4 a5 a6 a7
          go_wp2_with (fail)
          refine HCA.out.mono ?_
          rintro e w2 ⟨rfl, h2⟩
          have HP2 := Lib.hid (HP.out.say h2)
          rw [okI_all, Bool.true_and] at HP2
          clear h2 HCA a0 a8 HP
          obtain ⟨R1, hR1⟩ : ∃ S, rulesL wIgnore wKeep p.ign = S := ⟨_, rfl⟩
          obtain ⟨o1, ho1⟩ : ∃ b, okRules p.ign = b := ⟨_, rfl⟩
          rw [hR1] at HP2 HTX hS2l
          rw [ho1] at HP2 HTX HNR
          obtain ⟨S3, hS3⟩ : ∃ S, S2 ++ R1 = S := ⟨_, rfl⟩
          have hl3 : S3.length ≤ 1099621269328 := by rw [← hS3, List.length_append]; omega
          rw [hS3] at HP2 HTX
          clear hR1 ho1 hS3 hS2l hl2
          obtain ⟨a0, a1, a2, a3, a4, a5, a6, a7, a8⟩ := HP2.out.cells
          have hs2 := HP2.out.size
          have hT : ∀ W, Below (w.heap.size + 1) w2 W → Tabs W := fun W hW => (HLP.out.below (HP2.out.below.trans (hW.mono (by omega)))).laid.1
          have hB0 : ∀ W, Below (w.heap.size + 1) w2 W → Below w.heap.size w W := fun W hW => HP2.out.below.trans (hW.mono (by omega))
          have HCA := Lib.hid (show Calls Tryd.prog 20 #[.slice A1 p.bak.length c1, .string ⟨#[100, 114, 111, 112]⟩, .string ⟨#[98, 97, 99, 107, 117, 112]⟩, .pointer (some ⟨w.heap.size + 1 + 1 + 1, 0, none⟩)] w2 _ from prules_any p.bak A1 c1 wDrop wBackup (w.heap.size + 1 + 1) (w.heap.size + 1) (w.heap.size + 1 + 1 + 1) (w.heap.size + 1) S3 o1 w2 hT (fun W hW => HPF.out.bak.below (hB0 W hW)) HP2.out.fn ⟨HP2.out.bld, HP2.out.ok, Below.refl _ _, Kept2.refl _ _ _⟩ (by omega) (by omega) (by omega) (by omega) (by omega) (by omega) (by decide) (by decide) HSZ.out.bak.1 HSZ.out.bak.2)
          clear hT hB0 a0 a2 a3 a4 a5 a6 a7
          go_wp2_with (fail)
          refine HCA.out.mono ?_
          rintro e w3 ⟨rfl, h3⟩
          have HP3 := Lib.hid (HP2.out.say h3)
          rw [okI_all] at HP3
          clear h3 HCA a1 a8 HP2
          obtain ⟨R2, hR2⟩ : ∃ S, rulesL wBackup wDrop p.bak = S := ⟨_, rfl⟩
          obtain ⟨o2, ho2⟩ : ∃ b, okRules p.bak = b := ⟨_, rfl⟩
          rw [hR2] at HP3 HTX hS3l
          rw [ho2] at HP3 HTX HNR
          obtain ⟨S4, hS4⟩ : ∃ S, S3 ++ R2 = S := ⟨_, rfl⟩
          have hl4 : S4.length ≤ 2199242538400 := by rw [← hS4, List.length_append]; omega
          rw [hS4] at HP3 HTX
          obtain ⟨okr, hokr⟩ : ∃ b, (o1 && o2) = b := ⟨_, rfl⟩
          rw [hokr] at HP3
          have HNR2 : Hid (okr = false ∨ okProgs p.mrg = false → out = ([], 80)) := Lib.hid (fun h => HNR.out (by rw [← hokr] at h; revert h; cases o1 <;> cases o2 <;> simp <;> intro h <;> simp [h]))
          have HTX2 : Hid (okr = true → okProgs p.mrg = true → out = (S4 ++ progsL p.mrg, 0)) := Lib.hid (fun h h5 => by
            rw [← hokr, Bool.and_eq_true] at h
            exact HTX.out HOK1.out HOK2.out h.1 h.2 h5)
          clear hR2 ho2 hS4 hS3l hl3 hokr HNR HTX HNO
          obtain ⟨a0, a1, a2, a3, a4, a5, a6, a7, a8⟩ := HP3.out.cells
          have hml := HSZ.out.mrg.1
          clear a0 a1 a3 a4 a5 a6 a7 a8
          go_wp2_with (fail)
          go_loopw [68] (fun t68 W => ∃ i : Nat, i ≤ p.mrg.length ∧ t68 = .int .i64 i ∧ Hid (PrAt w A0 c0 A1 c1 A2 c2 p (S4 ++ progsL (p.mrg.take i)) (okr && okM p.mrg i) W)) (fun t68 _ => p.mrg.length - (intOf t68).toNat)
          case atStart => exact ⟨0, by omega, rfl, by
            rw [show progsL (p.mrg.take 0) = [] from rfl, List.append_nil, show okM p.mrg 0 = true from rfl, Bool.and_true]; exact HP3⟩
          case round =>
            clear HP3 a2
            obtain ⟨i, hi, rfl, HP⟩ := hrel
            by_cases hlt : i < p.mrg.length
            · have i0 : (0 : Int) ≤ (i : Int) := by omega
              have i1 : (i : Int) < p.mrg.length := by omega
              have e1 : IntKind.i64.wrap ((i : Int) + 1) = (i : Int) + 1 := IntWalk.i64_in _ (by omega)
              have hmem := List.getElem_mem hlt
              have hpl := HSZ.out.mrg.2 _ hmem
              have hrw := HPF.out.mrg.below HP.out.below
              obtain ⟨ad, rfl, x0, x1⟩ := pair_cells hrw hlt (u := .string ⟨p.mrg[i].name.toArray⟩) (v := .string ⟨p.mrg[i].pat.toArray⟩) rfl
              have hrl : progsL (p.mrg.take (i + 1)) = progsL (p.mrg.take i) ++ progL p.mrg[i] := by
                rw [List.take_succ_eq_append_getElem hlt]; unfold progsL; rw [List.flatMap_append, List.flatMap_singleton]
              have hok := okM_succ hlt
              have hll : (progsL (p.mrg.take i)).length ≤ (p.mrg.take i).length * 2097160 := progsL_length _ (fun r hr => HSZ.out.mrg.2 r (List.mem_of_mem_take hr))
              rw [List.length_take] at hll
              have hll2 : (progsL (p.mrg.take i)).length ≤ 2199031644160 := by
                have : min i p.mrg.length ≤ 1048576 := by omega
                omega
              have HOK := Lib.hid hok
              clear hmem hok hll hrw
              generalize p.mrg[i] = mm at *
              obtain ⟨nm, pt⟩ := mm
              simp only at x0 x1 hpl HOK
              obtain ⟨L, hLe⟩ : ∃ L, S4 ++ progsL (p.mrg.take i) = L := ⟨_, rfl⟩
              have hLL : L.length ≤ 70368744177664 := by rw [← hLe, List.length_append]; omega
              obtain ⟨okb, hokb⟩ : ∃ b, (okr && okM p.mrg i) = b := ⟨_, rfl⟩
              have HRL : Hid (L ++ (Lib.join [wMerge, nm, pt] [32] ++ [10]) = S4 ++ progsL (p.mrg.take (i + 1))) := Lib.hid (by
                rw [hrl, ← hLe, join_three]; unfold progL; simp)
              rw [hLe, hokb] at HP
              obtain ⟨W1, hW1⟩ : ∃ W1, wr.alloc (.cells #[.string ⟨nm.toArray⟩, .string ⟨pt.toArray⟩] 54) = W1 := ⟨_, rfl⟩
              have hb1 : Below wr.heap.size wr W1 := by rw [← hW1]; exact (Below.refl _ _).alloc (Nat.le_refl _) _
              have hr1 : W1.heap[wr.heap.size]? = some (.cells #[.string ⟨nm.toArray⟩, .string ⟨pt.toArray⟩] 54 (0, 0)) := by rw [← hW1]; exact heap_alloc_new _ _
              have hz1 : wr.heap.size < W1.heap.size := by rw [← hW1]; simp
              have hPW1 := HP.out.on hb1
              have hsz := HP.out.size
              have HCL : Hid (∀ W, Below W1.heap.size W1 W → W.cell? ⟨w.heap.size + 1 + 1 + 1, 0, none⟩ = some (.func (.func 17) #[] #[.pointer (some ⟨w.heap.size + 1 + 1, 0, none⟩), .pointer (some ⟨w.heap.size + 1, 0, none⟩)]) ∧ W.cell? ⟨wr.heap.size, 0, none⟩ = some (.string ⟨nm.toArray⟩) ∧ W.cell? ⟨wr.heap.size, 1, none⟩ = some (.string ⟨pt.toArray⟩)) := Lib.hid (fun W hW =>
                ⟨(hPW1.on hW).cells.2.2.2.2.2.2.2.2, cell_of_row _ _ 0 _ _ _ ((hW.block _ hz1).trans hr1), cell_of_row _ _ 1 _ _ _ ((hW.block _ hz1).trans hr1)⟩)
              have HPA := Lib.hid (fun W (hW : Below W1.heap.size W1 W) => pplain_any pt W ((HLP.out.below (hPW1.below.trans (hW.mono (Nat.le_trans hPW1.below.size (Nat.le_refl _))))).laid.1) (by have := hpl.2; omega))
              have HWD := Lib.hid (fun W => word_any nm W (by have := hpl.1; omega))
              have HSAY : Hid (∀ (good : Bool) (W : World) (g : Nat), Below W1.heap.size W1 W → W.heap[g]? = some (.cells #[.string ⟨#[109, 101, 114, 103, 101]⟩, .string ⟨nm.toArray⟩, .string ⟨pt.toArray⟩] 9 (0, 0)) → w.heap.size + 4 ≤ g →
                  Calls Tryd.prog 17 #[.bool good, .slice (some ⟨g, 0, none⟩) 3 3, .pointer (some ⟨w.heap.size + 1 + 1, 0, none⟩), .pointer (some ⟨w.heap.size + 1, 0, none⟩)] W fun e w' => e = .returned (.tuple #[]) ∧ PrAt w A0 c0 A1 c1 (some ad) c2 p (S4 ++ progsL (p.mrg.take (i + 1))) (okb && good) w' ∧ (w'.cell? ⟨w.heap.size + 1 + 1 + 1, 0, none⟩ = some (.func (.func 17) #[] #[.pointer (some ⟨w.heap.size + 1 + 1, 0, none⟩), .pointer (some ⟨w.heap.size + 1, 0, none⟩)]) ∧ w'.cell? ⟨wr.heap.size, 0, none⟩ = some (.string ⟨nm.toArray⟩) ∧ w'.cell? ⟨wr.heap.size, 1, none⟩ = some (.string ⟨pt.toArray⟩))) := Lib.hid (fun good W g hW hg hgo => by
                have hj : (Lib.join [wMerge, nm, pt] [32]).length ≤ 2200000 := by rw [join_three]; simp [wMerge]; omega
                refine (say_new good [wMerge, nm, pt] g (hPW1.on hW) hg hgo (by simp) hj hLL).mono ?_
                rintro e w' ⟨he, h1, h2⟩
                rw [HRL.out] at h1
                have k2 := h2 wr.heap.size _ ((hW.block _ hz1).trans hr1) (by omega) (by omega) (fun c fz h => by injection h with _ h2 _; revert h2; decide)
                exact ⟨he, h1, h1.cells.2.2.2.2.2.2.2.2, cell_of_row _ _ 0 _ _ _ k2, cell_of_row _ _ 1 _ _ _ k2⟩)
              have HEND : Hid (∀ w' good, (wordP nm && plainS pt && decide (i < 100)) = good → PrAt w A0 c0 A1 c1 (some ad) c2 p (S4 ++ progsL (p.mrg.take (i + 1))) (okb && good) w' → PrAt w A0 c0 A1 c1 (some ad) c2 p (S4 ++ progsL (p.mrg.take (i + 1))) (okr && okM p.mrg (i + 1)) w') := Lib.hid (fun w' good hg h => by
                rw [HOK.out, hg, ← Bool.and_assoc, hokb]; exact h)
              have HW1 := Lib.hid hW1
              have hgo : w.heap.size + 4 ≤ W1.heap.size := by omega
              have HGO : Hid (∀ W, Below W1.heap.size W1 W → w.heap.size + 4 ≤ W.heap.size) := Lib.hid (fun W hW => by have := hW.size; omega)
              clear hW1 hr1 hb1 hPW1 hLe hokb hrl HOK HRL hgo
              obtain ⟨wb, hwb⟩ : ∃ b, wordP nm = b := ⟨_, rfl⟩
              obtain ⟨pl, hpl2⟩ : ∃ b, plainS pt = b := ⟨_, rfl⟩
              rw [hpl2] at HPA HEND
              rw [hwb] at HWD HEND
              clear hpl2 hwb
              go_upto_region 23 with (fail)
              rw [HW1.out]
              cases wb with
              | false =>
                  have HX := Lib.hid (drewP W1)
                  refine wp_region_noPanic ?_
                  refine wp_region_held_drew (S := fun W => W.cell? ⟨w.heap.size + 1 + 1 + 1, 0, none⟩ = some (.func (.func 17) #[] #[.pointer (some ⟨w.heap.size + 1 + 1, 0, none⟩), .pointer (some ⟨w.heap.size + 1, 0, none⟩)]) ∧ W.cell? ⟨wr.heap.size, 0, none⟩ = some (.string ⟨nm.toArray⟩) ∧ W.cell? ⟨wr.heap.size, 1, none⟩ = some (.string ⟨pt.toArray⟩)) (by kernel_rfl) (HCL.out _ HX.out) (fun hHeld => ?_)
                  refine wpAnyH_take (i := 0) (oi := _) (v := ?_) rfl (by kernel_rfl) (by kernel_rfl) (by kernel_rfl) (fun _ _ _ h => h) (Or.inl ⟨by rfl, ?_⟩) (by assumption) ?_
                  rotate_left 1
                  · intro w hSw
                    (try dsimp only at hSw)
                    go_simp
                    (try with_reducible rfl)
                  try simp only [List.getElem_toArray, List.getElem_cons_zero, List.getElem_cons_succ, Act.put, List.setIfInBounds_toArray, List.set_cons_zero, List.set_cons_succ]
                  refine wpAnyH_take (i := 1) (oi := _) (v := ?_) rfl (by kernel_rfl) (by kernel_rfl) (by kernel_rfl) (fun _ _ _ h => h) (Or.inl ⟨by rfl, ?_⟩) (by assumption) ?_
                  rotate_left 1
                  · intro w hSw
                    (try dsimp only at hSw)
                    go_simp
                    (try with_reducible rfl)
                  try simp only [List.getElem_toArray, List.getElem_cons_zero, List.getElem_cons_succ, Act.put, List.setIfInBounds_toArray, List.set_cons_zero, List.set_cons_succ]
                  refine wpAnyH_take (i := 2) (oi := _) (v := ?_) rfl (by kernel_rfl) (by kernel_rfl) (by kernel_rfl) (fun _ _ _ h => h) (Or.inl ⟨by rfl, ?_⟩) (by assumption) ?_
                  rotate_left 1
                  · intro w hSw
                    (try dsimp only at hSw)
                    go_simp
                    (try with_reducible rfl)
                  try simp only [List.getElem_toArray, List.getElem_cons_zero, List.getElem_cons_succ, Act.put, List.setIfInBounds_toArray, List.set_cons_zero, List.set_cons_succ]
                  refine wpAnyH_take (i := 13) (oi := _) (v := ?_) rfl (by kernel_rfl) (by kernel_rfl) (by kernel_rfl) (fun _ _ _ h => h) (Or.inl ⟨by rfl, ?_⟩) (by assumption) ?_
                  rotate_left 1
                  · intro w hSw
                    (try dsimp only at hSw)
                    go_simp
                    (try with_reducible rfl)
                  try simp only [List.getElem_toArray, List.getElem_cons_zero, List.getElem_cons_succ, Act.put, List.setIfInBounds_toArray, List.set_cons_zero, List.set_cons_succ]
                  refine wpAnyH_take (i := 14) (oi := _) (v := ?_) rfl (by kernel_rfl) (by kernel_rfl) (by kernel_rfl) (fun _ _ _ h => h) (Or.inl ⟨by rfl, ?_⟩) (by assumption) ?_
                  rotate_left 1
                  · intro w hSw
                    (try dsimp only at hSw)
                    go_simp
                    (try with_reducible rfl)
                  try simp only [List.getElem_toArray, List.getElem_cons_zero, List.getElem_cons_succ, Act.put, List.setIfInBounds_toArray, List.set_cons_zero, List.set_cons_succ]
                  refine wpAnyH_take (i := 15) (oi := _) (v := ?_) rfl (by kernel_rfl) (by kernel_rfl) (by kernel_rfl) (fun _ _ _ h => h) (Or.inl ⟨by rfl, ?_⟩) (by assumption) ?_
                  rotate_left 1
                  · intro w hSw
                    (try dsimp only at hSw)
                    go_simp
                    (try with_reducible rfl)
                  try simp only [List.getElem_toArray, List.getElem_cons_zero, List.getElem_cons_succ, Act.put, List.setIfInBounds_toArray, List.set_cons_zero, List.set_cons_succ]
                  refine wpAnyH_take (i := 16) (oi := _) (v := ?_) rfl (by kernel_rfl) (by kernel_rfl) (by kernel_rfl) (fun _ _ _ h => h) (Or.inl ⟨by rfl, ?_⟩) (by assumption) ?_
                  rotate_left 1
                  · intro w hSw
                    (try dsimp only at hSw)
                    go_simp
                    (try with_reducible rfl)
                  try simp only [List.getElem_toArray, List.getElem_cons_zero, List.getElem_cons_succ, Act.put, List.setIfInBounds_toArray, List.set_cons_zero, List.set_cons_succ]
                  refine wpAnyH_ready (rs := [3, 17]) (by kernel_rfl) (by simp) ?_
                  refine AllReadyH.cons (o := _) rfl (fun K hK => ?_) ?_
                  · go_simp
                    refine (HWD.out _).mono ?_
                    rintro e w9 ⟨rfl, hw9⟩
                    have HY := Lib.hid (HX.out.trans (hw9.mono HX.out.size))
                    have HX := Lib.hid HY.out
                    clear HY hw9
                    (try go_wp2_with (fail))
                    refine hK.out _ _ (HCL.out _ HX.out) (fun hHeld => ?_)
                    clear hK K
                    try simp only [List.getElem_toArray, List.getElem_cons_zero, List.getElem_cons_succ, Act.put, List.setIfInBounds_toArray, List.set_cons_zero, List.set_cons_succ]
                    refine wpAnyH_take (i := 4) (oi := _) (v := ?_) rfl (by kernel_rfl) (by kernel_rfl) (by kernel_rfl) (fun _ _ _ h => h) (Or.inl ⟨by rfl, ?_⟩) (by assumption) ?_
                    rotate_left 1
                    · intro w hSw
                      (try dsimp only at hSw)
                      go_simp
                      (try with_reducible rfl)
                    try simp only [List.getElem_toArray, List.getElem_cons_zero, List.getElem_cons_succ, Act.put, List.setIfInBounds_toArray, List.set_cons_zero, List.set_cons_succ]
                    refine wpAnyH_take (i := 5) (oi := _) (v := undef) rfl (by kernel_rfl) (by kernel_rfl) (by kernel_rfl) (fun _ _ _ h => h) (Or.inr ⟨by rfl, rfl⟩) (by assumption) ?_
                    try simp only [List.getElem_toArray, List.getElem_cons_zero, List.getElem_cons_succ, Act.put, List.setIfInBounds_toArray, List.set_cons_zero, List.set_cons_succ]
                    refine wpAnyH_take (i := 6) (oi := _) (v := undef) rfl (by kernel_rfl) (by kernel_rfl) (by kernel_rfl) (fun _ _ _ h => h) (Or.inr ⟨by rfl, rfl⟩) (by assumption) ?_
                    try simp only [List.getElem_toArray, List.getElem_cons_zero, List.getElem_cons_succ, Act.put, List.setIfInBounds_toArray, List.set_cons_zero, List.set_cons_succ]
                    refine wpAnyH_take (i := 7) (oi := _) (v := undef) rfl (by kernel_rfl) (by kernel_rfl) (by kernel_rfl) (fun _ _ _ h => h) (Or.inr ⟨by rfl, rfl⟩) (by assumption) ?_
                    try simp only [List.getElem_toArray, List.getElem_cons_zero, List.getElem_cons_succ, Act.put, List.setIfInBounds_toArray, List.set_cons_zero, List.set_cons_succ]
                    refine wpAnyH_take (i := 8) (oi := _) (v := ?_) rfl (by kernel_rfl) (by kernel_rfl) (by kernel_rfl) (fun _ _ _ h => h) (Or.inl ⟨by rfl, ?_⟩) (by assumption) ?_
                    rotate_left 1
                    · intro w hSw
                      (try dsimp only at hSw)
                      go_simp
                      (try with_reducible rfl)
                    try simp only [List.getElem_toArray, List.getElem_cons_zero, List.getElem_cons_succ, Act.put, List.setIfInBounds_toArray, List.set_cons_zero, List.set_cons_succ]
                    refine wpAnyH_take (i := 9) (oi := _) (v := ?_) rfl (by kernel_rfl) (by kernel_rfl) (by kernel_rfl) (fun _ _ _ h => h) (Or.inl ⟨by rfl, ?_⟩) (by assumption) ?_
                    rotate_left 1
                    · intro w hSw
                      (try dsimp only at hSw)
                      go_simp
                      (try with_reducible rfl)
                    try simp only [List.getElem_toArray, List.getElem_cons_zero, List.getElem_cons_succ, Act.put, List.setIfInBounds_toArray, List.set_cons_zero, List.set_cons_succ]
                    refine wpAnyH_take (i := 10) (oi := _) (v := undef) rfl (by kernel_rfl) (by kernel_rfl) (by kernel_rfl) (fun _ _ _ h => h) (Or.inr ⟨by rfl, rfl⟩) (by assumption) ?_
                    try simp only [List.getElem_toArray, List.getElem_cons_zero, List.getElem_cons_succ, Act.put, List.setIfInBounds_toArray, List.set_cons_zero, List.set_cons_succ]
                    refine wpAnyH_take (i := 11) (oi := _) (v := undef) rfl (by kernel_rfl) (by kernel_rfl) (by kernel_rfl) (fun _ _ _ h => h) (Or.inr ⟨by rfl, rfl⟩) (by assumption) ?_
                    try simp only [List.getElem_toArray, List.getElem_cons_zero, List.getElem_cons_succ, Act.put, List.setIfInBounds_toArray, List.set_cons_zero, List.set_cons_succ]
                    refine wpAnyH_take (i := 12) (oi := _) (v := ?_) rfl (by kernel_rfl) (by kernel_rfl) (by kernel_rfl) (fun _ _ _ h => h) (Or.inl ⟨by rfl, ?_⟩) (by assumption) ?_
                    rotate_left 1
                    · intro w hSw
                      (try dsimp only at hSw)
                      go_simp
                      (try with_reducible rfl)
                    try simp only [List.getElem_toArray, List.getElem_cons_zero, List.getElem_cons_succ, Act.put, List.setIfInBounds_toArray, List.set_cons_zero, List.set_cons_succ]
                    refine wpAnyH_ready (rs := [17]) (by kernel_rfl) (by simp) ?_
                    refine AllReadyH.cons (o := _) rfl (fun K hK => ?_) AllReadyH.nil
                    go_simp
                    have HN := Lib.hid (And.intro (heap_alloc_new (w9) (.cells #[.string ⟨#[109, 101, 114, 103, 101]⟩, .string ⟨nm.toArray⟩, .string ⟨pt.toArray⟩] 9)) (HGO.out _ HX.out))
                    have HX := Lib.hid (HX.out.alloc HX.out.size (.cells #[.string ⟨#[109, 101, 114, 103, 101]⟩, .string ⟨nm.toArray⟩, .string ⟨pt.toArray⟩] 9))
                    refine hK.out _ _ (HCL.out _ HX.out) (fun hHeld => ?_)
                    clear hK K
                    try simp only [List.getElem_toArray, List.getElem_cons_zero, List.getElem_cons_succ, Act.put, List.setIfInBounds_toArray, List.set_cons_zero, List.set_cons_succ]
                    refine wpAnyH_ready (rs := [18]) (by kernel_rfl) (by simp) ?_
                    refine AllReadyH.cons (o := _) rfl (fun K hK => ?_) AllReadyH.nil
                    go_simp
                    refine (HSAY.out _ _ _ HX.out HN.out.1 HN.out.2).mono ?_
                    rintro e w11 ⟨rfl, h11, s9⟩
                    have HS11 := Lib.hid h11
                    clear h11
                    (try go_wp2_with (fail))
                    refine hK.out _ _ s9 (fun hHeld => ?_)
                    clear hK K
                    try simp only [List.getElem_toArray, List.getElem_cons_zero, List.getElem_cons_succ, Act.put, List.setIfInBounds_toArray, List.set_cons_zero, List.set_cons_succ]
                    refine wpAnyH_done (by kernel_rfl) ?_ _
                    refine NoPanic.normal ?_
                    go_wp2_with (fail)
                    go_roundw
                    case rel => exact ⟨i + 1, by omega, by go_num, Lib.hid (HEND.out _ _ (by simp) HS11.out)⟩
                    case measure => simp [intOf]; omega
                  refine AllReadyH.cons (o := _) rfl (fun K hK => ?_) AllReadyH.nil
                  go_simp
                  have HN := Lib.hid (And.intro (heap_alloc_new (W1.drew) (.cells #[.string ⟨#[109, 101, 114, 103, 101]⟩, .string ⟨nm.toArray⟩, .string ⟨pt.toArray⟩] 9)) (HGO.out _ HX.out))
                  have HX := Lib.hid (HX.out.alloc HX.out.size (.cells #[.string ⟨#[109, 101, 114, 103, 101]⟩, .string ⟨nm.toArray⟩, .string ⟨pt.toArray⟩] 9))
                  refine hK.out _ _ (HCL.out _ HX.out) (fun hHeld => ?_)
                  clear hK K
                  try simp only [List.getElem_toArray, List.getElem_cons_zero, List.getElem_cons_succ, Act.put, List.setIfInBounds_toArray, List.set_cons_zero, List.set_cons_succ]
                  refine wpAnyH_ready (rs := [3]) (by kernel_rfl) (by simp) ?_
                  refine AllReadyH.cons (o := _) rfl (fun K hK => ?_) AllReadyH.nil
                  go_simp
                  refine (HWD.out _).mono ?_
                  rintro e w9 ⟨rfl, hw9⟩
                  have HY := Lib.hid (HX.out.trans (hw9.mono HX.out.size))
                  have HN := Lib.hid (And.intro ((hw9.block _ (Array.getElem?_eq_some_iff.1 HN.out.1).1).trans HN.out.1) HN.out.2)
                  have HX := Lib.hid HY.out
                  clear HY hw9
                  (try go_wp2_with (fail))
                  refine hK.out _ _ (HCL.out _ HX.out) (fun hHeld => ?_)
                  clear hK K
                  try simp only [List.getElem_toArray, List.getElem_cons_zero, List.getElem_cons_succ, Act.put, List.setIfInBounds_toArray, List.set_cons_zero, List.set_cons_succ]
                  refine wpAnyH_take (i := 4) (oi := _) (v := ?_) rfl (by kernel_rfl) (by kernel_rfl) (by kernel_rfl) (fun _ _ _ h => h) (Or.inl ⟨by rfl, ?_⟩) (by assumption) ?_
                  rotate_left 1
                  · intro w hSw
                    (try dsimp only at hSw)
                    go_simp
                    (try with_reducible rfl)
                  try simp only [List.getElem_toArray, List.getElem_cons_zero, List.getElem_cons_succ, Act.put, List.setIfInBounds_toArray, List.set_cons_zero, List.set_cons_succ]
                  refine wpAnyH_take (i := 5) (oi := _) (v := undef) rfl (by kernel_rfl) (by kernel_rfl) (by kernel_rfl) (fun _ _ _ h => h) (Or.inr ⟨by rfl, rfl⟩) (by assumption) ?_
                  try simp only [List.getElem_toArray, List.getElem_cons_zero, List.getElem_cons_succ, Act.put, List.setIfInBounds_toArray, List.set_cons_zero, List.set_cons_succ]
                  refine wpAnyH_take (i := 6) (oi := _) (v := undef) rfl (by kernel_rfl) (by kernel_rfl) (by kernel_rfl) (fun _ _ _ h => h) (Or.inr ⟨by rfl, rfl⟩) (by assumption) ?_
                  try simp only [List.getElem_toArray, List.getElem_cons_zero, List.getElem_cons_succ, Act.put, List.setIfInBounds_toArray, List.set_cons_zero, List.set_cons_succ]
                  refine wpAnyH_take (i := 7) (oi := _) (v := undef) rfl (by kernel_rfl) (by kernel_rfl) (by kernel_rfl) (fun _ _ _ h => h) (Or.inr ⟨by rfl, rfl⟩) (by assumption) ?_
                  try simp only [List.getElem_toArray, List.getElem_cons_zero, List.getElem_cons_succ, Act.put, List.setIfInBounds_toArray, List.set_cons_zero, List.set_cons_succ]
                  refine wpAnyH_take (i := 8) (oi := _) (v := ?_) rfl (by kernel_rfl) (by kernel_rfl) (by kernel_rfl) (fun _ _ _ h => h) (Or.inl ⟨by rfl, ?_⟩) (by assumption) ?_
                  rotate_left 1
                  · intro w hSw
                    (try dsimp only at hSw)
                    go_simp
                    (try with_reducible rfl)
                  try simp only [List.getElem_toArray, List.getElem_cons_zero, List.getElem_cons_succ, Act.put, List.setIfInBounds_toArray, List.set_cons_zero, List.set_cons_succ]
                  refine wpAnyH_take (i := 9) (oi := _) (v := ?_) rfl (by kernel_rfl) (by kernel_rfl) (by kernel_rfl) (fun _ _ _ h => h) (Or.inl ⟨by rfl, ?_⟩) (by assumption) ?_
                  rotate_left 1
                  · intro w hSw
                    (try dsimp only at hSw)
                    go_simp
                    (try with_reducible rfl)
                  try simp only [List.getElem_toArray, List.getElem_cons_zero, List.getElem_cons_succ, Act.put, List.setIfInBounds_toArray, List.set_cons_zero, List.set_cons_succ]
                  refine wpAnyH_take (i := 10) (oi := _) (v := undef) rfl (by kernel_rfl) (by kernel_rfl) (by kernel_rfl) (fun _ _ _ h => h) (Or.inr ⟨by rfl, rfl⟩) (by assumption) ?_
                  try simp only [List.getElem_toArray, List.getElem_cons_zero, List.getElem_cons_succ, Act.put, List.setIfInBounds_toArray, List.set_cons_zero, List.set_cons_succ]
                  refine wpAnyH_take (i := 11) (oi := _) (v := undef) rfl (by kernel_rfl) (by kernel_rfl) (by kernel_rfl) (fun _ _ _ h => h) (Or.inr ⟨by rfl, rfl⟩) (by assumption) ?_
                  try simp only [List.getElem_toArray, List.getElem_cons_zero, List.getElem_cons_succ, Act.put, List.setIfInBounds_toArray, List.set_cons_zero, List.set_cons_succ]
                  refine wpAnyH_take (i := 12) (oi := _) (v := ?_) rfl (by kernel_rfl) (by kernel_rfl) (by kernel_rfl) (fun _ _ _ h => h) (Or.inl ⟨by rfl, ?_⟩) (by assumption) ?_
                  rotate_left 1
                  · intro w hSw
                    (try dsimp only at hSw)
                    go_simp
                    (try with_reducible rfl)
                  try simp only [List.getElem_toArray, List.getElem_cons_zero, List.getElem_cons_succ, Act.put, List.setIfInBounds_toArray, List.set_cons_zero, List.set_cons_succ]
                  refine wpAnyH_ready (rs := [18]) (by kernel_rfl) (by simp) ?_
                  refine AllReadyH.cons (o := _) rfl (fun K hK => ?_) AllReadyH.nil
                  go_simp
                  refine (HSAY.out _ _ _ HX.out HN.out.1 HN.out.2).mono ?_
                  rintro e w11 ⟨rfl, h11, s9⟩
                  have HS11 := Lib.hid h11
                  clear h11
                  (try go_wp2_with (fail))
                  refine hK.out _ _ s9 (fun hHeld => ?_)
                  clear hK K
                  try simp only [List.getElem_toArray, List.getElem_cons_zero, List.getElem_cons_succ, Act.put, List.setIfInBounds_toArray, List.set_cons_zero, List.set_cons_succ]
                  refine wpAnyH_done (by kernel_rfl) ?_ _
                  refine NoPanic.normal ?_
                  go_wp2_with (fail)
                  go_roundw
                  case rel => exact ⟨i + 1, by omega, by go_num, Lib.hid (HEND.out _ _ (by simp) HS11.out)⟩
                  case measure => simp [intOf]; omega

              | true =>
                cases pl with
                | false =>
                  have HX := Lib.hid (drewP W1)
                  refine wp_region_noPanic ?_
                  refine wp_region_held_drew (S := fun W => W.cell? ⟨w.heap.size + 1 + 1 + 1, 0, none⟩ = some (.func (.func 17) #[] #[.pointer (some ⟨w.heap.size + 1 + 1, 0, none⟩), .pointer (some ⟨w.heap.size + 1, 0, none⟩)]) ∧ W.cell? ⟨wr.heap.size, 0, none⟩ = some (.string ⟨nm.toArray⟩) ∧ W.cell? ⟨wr.heap.size, 1, none⟩ = some (.string ⟨pt.toArray⟩)) (by kernel_rfl) (HCL.out _ HX.out) (fun hHeld => ?_)
                  refine wpAnyH_take (i := 0) (oi := _) (v := ?_) rfl (by kernel_rfl) (by kernel_rfl) (by kernel_rfl) (fun _ _ _ h => h) (Or.inl ⟨by rfl, ?_⟩) (by assumption) ?_
                  rotate_left 1
                  · intro w hSw
                    (try dsimp only at hSw)
                    go_simp
                    (try with_reducible rfl)
                  try simp only [List.getElem_toArray, List.getElem_cons_zero, List.getElem_cons_succ, Act.put, List.setIfInBounds_toArray, List.set_cons_zero, List.set_cons_succ]
                  refine wpAnyH_take (i := 1) (oi := _) (v := ?_) rfl (by kernel_rfl) (by kernel_rfl) (by kernel_rfl) (fun _ _ _ h => h) (Or.inl ⟨by rfl, ?_⟩) (by assumption) ?_
                  rotate_left 1
                  · intro w hSw
                    (try dsimp only at hSw)
                    go_simp
                    (try with_reducible rfl)
                  try simp only [List.getElem_toArray, List.getElem_cons_zero, List.getElem_cons_succ, Act.put, List.setIfInBounds_toArray, List.set_cons_zero, List.set_cons_succ]
                  refine wpAnyH_take (i := 2) (oi := _) (v := ?_) rfl (by kernel_rfl) (by kernel_rfl) (by kernel_rfl) (fun _ _ _ h => h) (Or.inl ⟨by rfl, ?_⟩) (by assumption) ?_
                  rotate_left 1
                  · intro w hSw
                    (try dsimp only at hSw)
                    go_simp
                    (try with_reducible rfl)
                  try simp only [List.getElem_toArray, List.getElem_cons_zero, List.getElem_cons_succ, Act.put, List.setIfInBounds_toArray, List.set_cons_zero, List.set_cons_succ]
                  refine wpAnyH_take (i := 13) (oi := _) (v := ?_) rfl (by kernel_rfl) (by kernel_rfl) (by kernel_rfl) (fun _ _ _ h => h) (Or.inl ⟨by rfl, ?_⟩) (by assumption) ?_
                  rotate_left 1
                  · intro w hSw
                    (try dsimp only at hSw)
                    go_simp
                    (try with_reducible rfl)
                  try simp only [List.getElem_toArray, List.getElem_cons_zero, List.getElem_cons_succ, Act.put, List.setIfInBounds_toArray, List.set_cons_zero, List.set_cons_succ]
                  refine wpAnyH_take (i := 14) (oi := _) (v := ?_) rfl (by kernel_rfl) (by kernel_rfl) (by kernel_rfl) (fun _ _ _ h => h) (Or.inl ⟨by rfl, ?_⟩) (by assumption) ?_
                  rotate_left 1
                  · intro w hSw
                    (try dsimp only at hSw)
                    go_simp
                    (try with_reducible rfl)
                  try simp only [List.getElem_toArray, List.getElem_cons_zero, List.getElem_cons_succ, Act.put, List.setIfInBounds_toArray, List.set_cons_zero, List.set_cons_succ]
                  refine wpAnyH_take (i := 15) (oi := _) (v := ?_) rfl (by kernel_rfl) (by kernel_rfl) (by kernel_rfl) (fun _ _ _ h => h) (Or.inl ⟨by rfl, ?_⟩) (by assumption) ?_
                  rotate_left 1
                  · intro w hSw
                    (try dsimp only at hSw)
                    go_simp
                    (try with_reducible rfl)
                  try simp only [List.getElem_toArray, List.getElem_cons_zero, List.getElem_cons_succ, Act.put, List.setIfInBounds_toArray, List.set_cons_zero, List.set_cons_succ]
                  refine wpAnyH_take (i := 16) (oi := _) (v := ?_) rfl (by kernel_rfl) (by kernel_rfl) (by kernel_rfl) (fun _ _ _ h => h) (Or.inl ⟨by rfl, ?_⟩) (by assumption) ?_
                  rotate_left 1
                  · intro w hSw
                    (try dsimp only at hSw)
                    go_simp
                    (try with_reducible rfl)
                  try simp only [List.getElem_toArray, List.getElem_cons_zero, List.getElem_cons_succ, Act.put, List.setIfInBounds_toArray, List.set_cons_zero, List.set_cons_succ]
                  refine wpAnyH_ready (rs := [3, 17]) (by kernel_rfl) (by simp) ?_
                  refine AllReadyH.cons (o := _) rfl (fun K hK => ?_) ?_
                  · go_simp
                    refine (HWD.out _).mono ?_
                    rintro e w9 ⟨rfl, hw9⟩
                    have HY := Lib.hid (HX.out.trans (hw9.mono HX.out.size))
                    have HX := Lib.hid HY.out
                    clear HY hw9
                    (try go_wp2_with (fail))
                    refine hK.out _ _ (HCL.out _ HX.out) (fun hHeld => ?_)
                    clear hK K
                    try simp only [List.getElem_toArray, List.getElem_cons_zero, List.getElem_cons_succ, Act.put, List.setIfInBounds_toArray, List.set_cons_zero, List.set_cons_succ]
                    refine wpAnyH_take (i := 4) (oi := _) (v := ?_) rfl (by kernel_rfl) (by kernel_rfl) (by kernel_rfl) (fun _ _ _ h => h) (Or.inl ⟨by rfl, ?_⟩) (by assumption) ?_
                    rotate_left 1
                    · intro w hSw
                      (try dsimp only at hSw)
                      go_simp
                      (try with_reducible rfl)
                    try simp only [List.getElem_toArray, List.getElem_cons_zero, List.getElem_cons_succ, Act.put, List.setIfInBounds_toArray, List.set_cons_zero, List.set_cons_succ]
                    refine wpAnyH_take (i := 5) (oi := _) (v := ?_) rfl (by kernel_rfl) (by kernel_rfl) (by kernel_rfl) (fun _ _ _ h => h) (Or.inl ⟨by rfl, ?_⟩) (by assumption) ?_
                    rotate_left 1
                    · intro w hSw
                      (try dsimp only at hSw)
                      go_simp
                      (try with_reducible rfl)
                    try simp only [List.getElem_toArray, List.getElem_cons_zero, List.getElem_cons_succ, Act.put, List.setIfInBounds_toArray, List.set_cons_zero, List.set_cons_succ]
                    refine wpAnyH_take (i := 6) (oi := _) (v := ?_) rfl (by kernel_rfl) (by kernel_rfl) (by kernel_rfl) (fun _ _ _ h => h) (Or.inl ⟨by rfl, ?_⟩) (by assumption) ?_
                    rotate_left 1
                    · intro w hSw
                      (try dsimp only at hSw)
                      go_simp
                      (try with_reducible rfl)
                    try simp only [List.getElem_toArray, List.getElem_cons_zero, List.getElem_cons_succ, Act.put, List.setIfInBounds_toArray, List.set_cons_zero, List.set_cons_succ]
                    refine wpAnyH_ready (rs := [7, 17]) (by kernel_rfl) (by simp) ?_
                    refine AllReadyH.cons (o := _) rfl (fun K hK => ?_) ?_
                    · go_simp
                      refine (HPA.out _ HX.out).mono ?_
                      rintro e w10 ⟨rfl, hw10⟩
                      have HY := Lib.hid (HX.out.trans (hw10.mono HX.out.size))
                      have HX := Lib.hid HY.out
                      clear HY hw10
                      (try go_wp2_with (fail))
                      refine hK.out _ _ (HCL.out _ HX.out) (fun hHeld => ?_)
                      clear hK K
                      try simp only [List.getElem_toArray, List.getElem_cons_zero, List.getElem_cons_succ, Act.put, List.setIfInBounds_toArray, List.set_cons_zero, List.set_cons_succ]
                      refine wpAnyH_take (i := 8) (oi := _) (v := ?_) rfl (by kernel_rfl) (by kernel_rfl) (by kernel_rfl) (fun _ _ _ h => h) (Or.inl ⟨by rfl, ?_⟩) (by assumption) ?_
                      rotate_left 1
                      · intro w hSw
                        (try dsimp only at hSw)
                        go_simp
                        (try with_reducible rfl)
                      try simp only [List.getElem_toArray, List.getElem_cons_zero, List.getElem_cons_succ, Act.put, List.setIfInBounds_toArray, List.set_cons_zero, List.set_cons_succ]
                      refine wpAnyH_take (i := 9) (oi := _) (v := ?_) rfl (by kernel_rfl) (by kernel_rfl) (by kernel_rfl) (fun _ _ _ h => h) (Or.inl ⟨by rfl, ?_⟩) (by assumption) ?_
                      rotate_left 1
                      · intro w hSw
                        (try dsimp only at hSw)
                        go_simp
                        (try with_reducible rfl)
                      try simp only [List.getElem_toArray, List.getElem_cons_zero, List.getElem_cons_succ, Act.put, List.setIfInBounds_toArray, List.set_cons_zero, List.set_cons_succ]
                      refine wpAnyH_take (i := 10) (oi := _) (v := undef) rfl (by kernel_rfl) (by kernel_rfl) (by kernel_rfl) (fun _ _ _ h => h) (Or.inr ⟨by rfl, rfl⟩) (by assumption) ?_
                      try simp only [List.getElem_toArray, List.getElem_cons_zero, List.getElem_cons_succ, Act.put, List.setIfInBounds_toArray, List.set_cons_zero, List.set_cons_succ]
                      refine wpAnyH_take (i := 11) (oi := _) (v := undef) rfl (by kernel_rfl) (by kernel_rfl) (by kernel_rfl) (fun _ _ _ h => h) (Or.inr ⟨by rfl, rfl⟩) (by assumption) ?_
                      try simp only [List.getElem_toArray, List.getElem_cons_zero, List.getElem_cons_succ, Act.put, List.setIfInBounds_toArray, List.set_cons_zero, List.set_cons_succ]
                      refine wpAnyH_take (i := 12) (oi := _) (v := ?_) rfl (by kernel_rfl) (by kernel_rfl) (by kernel_rfl) (fun _ _ _ h => h) (Or.inl ⟨by rfl, ?_⟩) (by assumption) ?_
                      rotate_left 1
                      · intro w hSw
                        (try dsimp only at hSw)
                        go_simp
                        (try with_reducible rfl)
                      try simp only [List.getElem_toArray, List.getElem_cons_zero, List.getElem_cons_succ, Act.put, List.setIfInBounds_toArray, List.set_cons_zero, List.set_cons_succ]
                      refine wpAnyH_ready (rs := [17]) (by kernel_rfl) (by simp) ?_
                      refine AllReadyH.cons (o := _) rfl (fun K hK => ?_) AllReadyH.nil
                      go_simp
                      have HN := Lib.hid (And.intro (heap_alloc_new (w10) (.cells #[.string ⟨#[109, 101, 114, 103, 101]⟩, .string ⟨nm.toArray⟩, .string ⟨pt.toArray⟩] 9)) (HGO.out _ HX.out))
                      have HX := Lib.hid (HX.out.alloc HX.out.size (.cells #[.string ⟨#[109, 101, 114, 103, 101]⟩, .string ⟨nm.toArray⟩, .string ⟨pt.toArray⟩] 9))
                      refine hK.out _ _ (HCL.out _ HX.out) (fun hHeld => ?_)
                      clear hK K
                      try simp only [List.getElem_toArray, List.getElem_cons_zero, List.getElem_cons_succ, Act.put, List.setIfInBounds_toArray, List.set_cons_zero, List.set_cons_succ]
                      refine wpAnyH_ready (rs := [18]) (by kernel_rfl) (by simp) ?_
                      refine AllReadyH.cons (o := _) rfl (fun K hK => ?_) AllReadyH.nil
                      go_simp
                      refine (HSAY.out _ _ _ HX.out HN.out.1 HN.out.2).mono ?_
                      rintro e w11 ⟨rfl, h11, s9⟩
                      have HS11 := Lib.hid h11
                      clear h11
                      (try go_wp2_with (fail))
                      refine hK.out _ _ s9 (fun hHeld => ?_)
                      clear hK K
                      try simp only [List.getElem_toArray, List.getElem_cons_zero, List.getElem_cons_succ, Act.put, List.setIfInBounds_toArray, List.set_cons_zero, List.set_cons_succ]
                      refine wpAnyH_done (by kernel_rfl) ?_ _
                      refine NoPanic.normal ?_
                      go_wp2_with (fail)
                      go_roundw
                      case rel => exact ⟨i + 1, by omega, by go_num, Lib.hid (HEND.out _ _ (by simp) HS11.out)⟩
                      case measure => simp [intOf]; omega
                    refine AllReadyH.cons (o := _) rfl (fun K hK => ?_) AllReadyH.nil
                    go_simp
                    have HN := Lib.hid (And.intro (heap_alloc_new (w9) (.cells #[.string ⟨#[109, 101, 114, 103, 101]⟩, .string ⟨nm.toArray⟩, .string ⟨pt.toArray⟩] 9)) (HGO.out _ HX.out))
                    have HX := Lib.hid (HX.out.alloc HX.out.size (.cells #[.string ⟨#[109, 101, 114, 103, 101]⟩, .string ⟨nm.toArray⟩, .string ⟨pt.toArray⟩] 9))
                    refine hK.out _ _ (HCL.out _ HX.out) (fun hHeld => ?_)
                    clear hK K
                    try simp only [List.getElem_toArray, List.getElem_cons_zero, List.getElem_cons_succ, Act.put, List.setIfInBounds_toArray, List.set_cons_zero, List.set_cons_succ]
                    refine wpAnyH_ready (rs := [7]) (by kernel_rfl) (by simp) ?_
                    refine AllReadyH.cons (o := _) rfl (fun K hK => ?_) AllReadyH.nil
                    go_simp
                    refine (HPA.out _ HX.out).mono ?_
                    rintro e w10 ⟨rfl, hw10⟩
                    have HY := Lib.hid (HX.out.trans (hw10.mono HX.out.size))
                    have HN := Lib.hid (And.intro ((hw10.block _ (Array.getElem?_eq_some_iff.1 HN.out.1).1).trans HN.out.1) HN.out.2)
                    have HX := Lib.hid HY.out
                    clear HY hw10
                    (try go_wp2_with (fail))
                    refine hK.out _ _ (HCL.out _ HX.out) (fun hHeld => ?_)
                    clear hK K
                    try simp only [List.getElem_toArray, List.getElem_cons_zero, List.getElem_cons_succ, Act.put, List.setIfInBounds_toArray, List.set_cons_zero, List.set_cons_succ]
                    refine wpAnyH_take (i := 8) (oi := _) (v := ?_) rfl (by kernel_rfl) (by kernel_rfl) (by kernel_rfl) (fun _ _ _ h => h) (Or.inl ⟨by rfl, ?_⟩) (by assumption) ?_
                    rotate_left 1
                    · intro w hSw
                      (try dsimp only at hSw)
                      go_simp
                      (try with_reducible rfl)
                    try simp only [List.getElem_toArray, List.getElem_cons_zero, List.getElem_cons_succ, Act.put, List.setIfInBounds_toArray, List.set_cons_zero, List.set_cons_succ]
                    refine wpAnyH_take (i := 9) (oi := _) (v := ?_) rfl (by kernel_rfl) (by kernel_rfl) (by kernel_rfl) (fun _ _ _ h => h) (Or.inl ⟨by rfl, ?_⟩) (by assumption) ?_
                    rotate_left 1
                    · intro w hSw
                      (try dsimp only at hSw)
                      go_simp
                      (try with_reducible rfl)
                    try simp only [List.getElem_toArray, List.getElem_cons_zero, List.getElem_cons_succ, Act.put, List.setIfInBounds_toArray, List.set_cons_zero, List.set_cons_succ]
                    refine wpAnyH_take (i := 10) (oi := _) (v := undef) rfl (by kernel_rfl) (by kernel_rfl) (by kernel_rfl) (fun _ _ _ h => h) (Or.inr ⟨by rfl, rfl⟩) (by assumption) ?_
                    try simp only [List.getElem_toArray, List.getElem_cons_zero, List.getElem_cons_succ, Act.put, List.setIfInBounds_toArray, List.set_cons_zero, List.set_cons_succ]
                    refine wpAnyH_take (i := 11) (oi := _) (v := undef) rfl (by kernel_rfl) (by kernel_rfl) (by kernel_rfl) (fun _ _ _ h => h) (Or.inr ⟨by rfl, rfl⟩) (by assumption) ?_
                    try simp only [List.getElem_toArray, List.getElem_cons_zero, List.getElem_cons_succ, Act.put, List.setIfInBounds_toArray, List.set_cons_zero, List.set_cons_succ]
                    refine wpAnyH_take (i := 12) (oi := _) (v := ?_) rfl (by kernel_rfl) (by kernel_rfl) (by kernel_rfl) (fun _ _ _ h => h) (Or.inl ⟨by rfl, ?_⟩) (by assumption) ?_
                    rotate_left 1
                    · intro w hSw
                      (try dsimp only at hSw)
                      go_simp
                      (try with_reducible rfl)
                    try simp only [List.getElem_toArray, List.getElem_cons_zero, List.getElem_cons_succ, Act.put, List.setIfInBounds_toArray, List.set_cons_zero, List.set_cons_succ]
                    refine wpAnyH_ready (rs := [18]) (by kernel_rfl) (by simp) ?_
                    refine AllReadyH.cons (o := _) rfl (fun K hK => ?_) AllReadyH.nil
                    go_simp
                    refine (HSAY.out _ _ _ HX.out HN.out.1 HN.out.2).mono ?_
                    rintro e w11 ⟨rfl, h11, s9⟩
                    have HS11 := Lib.hid h11
                    clear h11
                    (try go_wp2_with (fail))
                    refine hK.out _ _ s9 (fun hHeld => ?_)
                    clear hK K
                    try simp only [List.getElem_toArray, List.getElem_cons_zero, List.getElem_cons_succ, Act.put, List.setIfInBounds_toArray, List.set_cons_zero, List.set_cons_succ]
                    refine wpAnyH_done (by kernel_rfl) ?_ _
                    refine NoPanic.normal ?_
                    go_wp2_with (fail)
                    go_roundw
                    case rel => exact ⟨i + 1, by omega, by go_num, Lib.hid (HEND.out _ _ (by simp) HS11.out)⟩
                    case measure => simp [intOf]; omega
                  refine AllReadyH.cons (o := _) rfl (fun K hK => ?_) AllReadyH.nil
                  go_simp
                  have HN := Lib.hid (And.intro (heap_alloc_new (W1.drew) (.cells #[.string ⟨#[109, 101, 114, 103, 101]⟩, .string ⟨nm.toArray⟩, .string ⟨pt.toArray⟩] 9)) (HGO.out _ HX.out))
                  have HX := Lib.hid (HX.out.alloc HX.out.size (.cells #[.string ⟨#[109, 101, 114, 103, 101]⟩, .string ⟨nm.toArray⟩, .string ⟨pt.toArray⟩] 9))
                  refine hK.out _ _ (HCL.out _ HX.out) (fun hHeld => ?_)
                  clear hK K
                  try simp only [List.getElem_toArray, List.getElem_cons_zero, List.getElem_cons_succ, Act.put, List.setIfInBounds_toArray, List.set_cons_zero, List.set_cons_succ]
                  refine wpAnyH_ready (rs := [3]) (by kernel_rfl) (by simp) ?_
                  refine AllReadyH.cons (o := _) rfl (fun K hK => ?_) AllReadyH.nil
                  go_simp
                  refine (HWD.out _).mono ?_
                  rintro e w9 ⟨rfl, hw9⟩
                  have HY := Lib.hid (HX.out.trans (hw9.mono HX.out.size))
                  have HN := Lib.hid (And.intro ((hw9.block _ (Array.getElem?_eq_some_iff.1 HN.out.1).1).trans HN.out.1) HN.out.2)
                  have HX := Lib.hid HY.out
                  clear HY hw9
                  (try go_wp2_with (fail))
                  refine hK.out _ _ (HCL.out _ HX.out) (fun hHeld => ?_)
                  clear hK K
                  try simp only [List.getElem_toArray, List.getElem_cons_zero, List.getElem_cons_succ, Act.put, List.setIfInBounds_toArray, List.set_cons_zero, List.set_cons_succ]
                  refine wpAnyH_take (i := 4) (oi := _) (v := ?_) rfl (by kernel_rfl) (by kernel_rfl) (by kernel_rfl) (fun _ _ _ h => h) (Or.inl ⟨by rfl, ?_⟩) (by assumption) ?_
                  rotate_left 1
                  · intro w hSw
                    (try dsimp only at hSw)
                    go_simp
                    (try with_reducible rfl)
                  try simp only [List.getElem_toArray, List.getElem_cons_zero, List.getElem_cons_succ, Act.put, List.setIfInBounds_toArray, List.set_cons_zero, List.set_cons_succ]
                  refine wpAnyH_take (i := 5) (oi := _) (v := ?_) rfl (by kernel_rfl) (by kernel_rfl) (by kernel_rfl) (fun _ _ _ h => h) (Or.inl ⟨by rfl, ?_⟩) (by assumption) ?_
                  rotate_left 1
                  · intro w hSw
                    (try dsimp only at hSw)
                    go_simp
                    (try with_reducible rfl)
                  try simp only [List.getElem_toArray, List.getElem_cons_zero, List.getElem_cons_succ, Act.put, List.setIfInBounds_toArray, List.set_cons_zero, List.set_cons_succ]
                  refine wpAnyH_take (i := 6) (oi := _) (v := ?_) rfl (by kernel_rfl) (by kernel_rfl) (by kernel_rfl) (fun _ _ _ h => h) (Or.inl ⟨by rfl, ?_⟩) (by assumption) ?_
                  rotate_left 1
                  · intro w hSw
                    (try dsimp only at hSw)
                    go_simp
                    (try with_reducible rfl)
                  try simp only [List.getElem_toArray, List.getElem_cons_zero, List.getElem_cons_succ, Act.put, List.setIfInBounds_toArray, List.set_cons_zero, List.set_cons_succ]
                  refine wpAnyH_ready (rs := [7]) (by kernel_rfl) (by simp) ?_
                  refine AllReadyH.cons (o := _) rfl (fun K hK => ?_) AllReadyH.nil
                  go_simp
                  refine (HPA.out _ HX.out).mono ?_
                  rintro e w10 ⟨rfl, hw10⟩
                  have HY := Lib.hid (HX.out.trans (hw10.mono HX.out.size))
                  have HN := Lib.hid (And.intro ((hw10.block _ (Array.getElem?_eq_some_iff.1 HN.out.1).1).trans HN.out.1) HN.out.2)
                  have HX := Lib.hid HY.out
                  clear HY hw10
                  (try go_wp2_with (fail))
                  refine hK.out _ _ (HCL.out _ HX.out) (fun hHeld => ?_)
                  clear hK K
                  try simp only [List.getElem_toArray, List.getElem_cons_zero, List.getElem_cons_succ, Act.put, List.setIfInBounds_toArray, List.set_cons_zero, List.set_cons_succ]
                  refine wpAnyH_take (i := 8) (oi := _) (v := ?_) rfl (by kernel_rfl) (by kernel_rfl) (by kernel_rfl) (fun _ _ _ h => h) (Or.inl ⟨by rfl, ?_⟩) (by assumption) ?_
                  rotate_left 1
                  · intro w hSw
                    (try dsimp only at hSw)
                    go_simp
                    (try with_reducible rfl)
                  try simp only [List.getElem_toArray, List.getElem_cons_zero, List.getElem_cons_succ, Act.put, List.setIfInBounds_toArray, List.set_cons_zero, List.set_cons_succ]
                  refine wpAnyH_take (i := 9) (oi := _) (v := ?_) rfl (by kernel_rfl) (by kernel_rfl) (by kernel_rfl) (fun _ _ _ h => h) (Or.inl ⟨by rfl, ?_⟩) (by assumption) ?_
                  rotate_left 1
                  · intro w hSw
                    (try dsimp only at hSw)
                    go_simp
                    (try with_reducible rfl)
                  try simp only [List.getElem_toArray, List.getElem_cons_zero, List.getElem_cons_succ, Act.put, List.setIfInBounds_toArray, List.set_cons_zero, List.set_cons_succ]
                  refine wpAnyH_take (i := 10) (oi := _) (v := undef) rfl (by kernel_rfl) (by kernel_rfl) (by kernel_rfl) (fun _ _ _ h => h) (Or.inr ⟨by rfl, rfl⟩) (by assumption) ?_
                  try simp only [List.getElem_toArray, List.getElem_cons_zero, List.getElem_cons_succ, Act.put, List.setIfInBounds_toArray, List.set_cons_zero, List.set_cons_succ]
                  refine wpAnyH_take (i := 11) (oi := _) (v := undef) rfl (by kernel_rfl) (by kernel_rfl) (by kernel_rfl) (fun _ _ _ h => h) (Or.inr ⟨by rfl, rfl⟩) (by assumption) ?_
                  try simp only [List.getElem_toArray, List.getElem_cons_zero, List.getElem_cons_succ, Act.put, List.setIfInBounds_toArray, List.set_cons_zero, List.set_cons_succ]
                  refine wpAnyH_take (i := 12) (oi := _) (v := ?_) rfl (by kernel_rfl) (by kernel_rfl) (by kernel_rfl) (fun _ _ _ h => h) (Or.inl ⟨by rfl, ?_⟩) (by assumption) ?_
                  rotate_left 1
                  · intro w hSw
                    (try dsimp only at hSw)
                    go_simp
                    (try with_reducible rfl)
                  try simp only [List.getElem_toArray, List.getElem_cons_zero, List.getElem_cons_succ, Act.put, List.setIfInBounds_toArray, List.set_cons_zero, List.set_cons_succ]
                  refine wpAnyH_ready (rs := [18]) (by kernel_rfl) (by simp) ?_
                  refine AllReadyH.cons (o := _) rfl (fun K hK => ?_) AllReadyH.nil
                  go_simp
                  refine (HSAY.out _ _ _ HX.out HN.out.1 HN.out.2).mono ?_
                  rintro e w11 ⟨rfl, h11, s9⟩
                  have HS11 := Lib.hid h11
                  clear h11
                  (try go_wp2_with (fail))
                  refine hK.out _ _ s9 (fun hHeld => ?_)
                  clear hK K
                  try simp only [List.getElem_toArray, List.getElem_cons_zero, List.getElem_cons_succ, Act.put, List.setIfInBounds_toArray, List.set_cons_zero, List.set_cons_succ]
                  refine wpAnyH_done (by kernel_rfl) ?_ _
                  refine NoPanic.normal ?_
                  go_wp2_with (fail)
                  go_roundw
                  case rel => exact ⟨i + 1, by omega, by go_num, Lib.hid (HEND.out _ _ (by simp) HS11.out)⟩
                  case measure => simp [intOf]; omega

                | true =>
                  by_cases h100 : i < 100
                  · have g : (i : Int) < 100 := by omega
                    have HI := Lib.hid h100
                    clear h100
                    have HX := Lib.hid (drewP W1)
                    refine wp_region_noPanic ?_
                    refine wp_region_held_drew (S := fun W => W.cell? ⟨w.heap.size + 1 + 1 + 1, 0, none⟩ = some (.func (.func 17) #[] #[.pointer (some ⟨w.heap.size + 1 + 1, 0, none⟩), .pointer (some ⟨w.heap.size + 1, 0, none⟩)]) ∧ W.cell? ⟨wr.heap.size, 0, none⟩ = some (.string ⟨nm.toArray⟩) ∧ W.cell? ⟨wr.heap.size, 1, none⟩ = some (.string ⟨pt.toArray⟩)) (by kernel_rfl) (HCL.out _ HX.out) (fun hHeld => ?_)
                    refine wpAnyH_take (i := 0) (oi := _) (v := ?_) rfl (by kernel_rfl) (by kernel_rfl) (by kernel_rfl) (fun _ _ _ h => h) (Or.inl ⟨by rfl, ?_⟩) (by assumption) ?_
                    rotate_left 1
                    · intro w hSw
                      (try dsimp only at hSw)
                      go_simp
                      (try with_reducible rfl)
                    try simp only [List.getElem_toArray, List.getElem_cons_zero, List.getElem_cons_succ, Act.put, List.setIfInBounds_toArray, List.set_cons_zero, List.set_cons_succ]
                    refine wpAnyH_take (i := 1) (oi := _) (v := ?_) rfl (by kernel_rfl) (by kernel_rfl) (by kernel_rfl) (fun _ _ _ h => h) (Or.inl ⟨by rfl, ?_⟩) (by assumption) ?_
                    rotate_left 1
                    · intro w hSw
                      (try dsimp only at hSw)
                      go_simp
                      (try with_reducible rfl)
                    try simp only [List.getElem_toArray, List.getElem_cons_zero, List.getElem_cons_succ, Act.put, List.setIfInBounds_toArray, List.set_cons_zero, List.set_cons_succ]
                    refine wpAnyH_take (i := 2) (oi := _) (v := ?_) rfl (by kernel_rfl) (by kernel_rfl) (by kernel_rfl) (fun _ _ _ h => h) (Or.inl ⟨by rfl, ?_⟩) (by assumption) ?_
                    rotate_left 1
                    · intro w hSw
                      (try dsimp only at hSw)
                      go_simp
                      (try with_reducible rfl)
                    try simp only [List.getElem_toArray, List.getElem_cons_zero, List.getElem_cons_succ, Act.put, List.setIfInBounds_toArray, List.set_cons_zero, List.set_cons_succ]
                    refine wpAnyH_take (i := 13) (oi := _) (v := ?_) rfl (by kernel_rfl) (by kernel_rfl) (by kernel_rfl) (fun _ _ _ h => h) (Or.inl ⟨by rfl, ?_⟩) (by assumption) ?_
                    rotate_left 1
                    · intro w hSw
                      (try dsimp only at hSw)
                      go_simp
                      (try with_reducible rfl)
                    try simp only [List.getElem_toArray, List.getElem_cons_zero, List.getElem_cons_succ, Act.put, List.setIfInBounds_toArray, List.set_cons_zero, List.set_cons_succ]
                    refine wpAnyH_take (i := 14) (oi := _) (v := ?_) rfl (by kernel_rfl) (by kernel_rfl) (by kernel_rfl) (fun _ _ _ h => h) (Or.inl ⟨by rfl, ?_⟩) (by assumption) ?_
                    rotate_left 1
                    · intro w hSw
                      (try dsimp only at hSw)
                      go_simp
                      (try with_reducible rfl)
                    try simp only [List.getElem_toArray, List.getElem_cons_zero, List.getElem_cons_succ, Act.put, List.setIfInBounds_toArray, List.set_cons_zero, List.set_cons_succ]
                    refine wpAnyH_take (i := 15) (oi := _) (v := ?_) rfl (by kernel_rfl) (by kernel_rfl) (by kernel_rfl) (fun _ _ _ h => h) (Or.inl ⟨by rfl, ?_⟩) (by assumption) ?_
                    rotate_left 1
                    · intro w hSw
                      (try dsimp only at hSw)
                      go_simp
                      (try with_reducible rfl)
                    try simp only [List.getElem_toArray, List.getElem_cons_zero, List.getElem_cons_succ, Act.put, List.setIfInBounds_toArray, List.set_cons_zero, List.set_cons_succ]
                    refine wpAnyH_take (i := 16) (oi := _) (v := ?_) rfl (by kernel_rfl) (by kernel_rfl) (by kernel_rfl) (fun _ _ _ h => h) (Or.inl ⟨by rfl, ?_⟩) (by assumption) ?_
                    rotate_left 1
                    · intro w hSw
                      (try dsimp only at hSw)
                      go_simp
                      (try with_reducible rfl)
                    try simp only [List.getElem_toArray, List.getElem_cons_zero, List.getElem_cons_succ, Act.put, List.setIfInBounds_toArray, List.set_cons_zero, List.set_cons_succ]
                    refine wpAnyH_ready (rs := [3, 17]) (by kernel_rfl) (by simp) ?_
                    refine AllReadyH.cons (o := _) rfl (fun K hK => ?_) ?_
                    · go_simp
                      refine (HWD.out _).mono ?_
                      rintro e w9 ⟨rfl, hw9⟩
                      have HY := Lib.hid (HX.out.trans (hw9.mono HX.out.size))
                      have HX := Lib.hid HY.out
                      clear HY hw9
                      (try go_wp2_with (fail))
                      refine hK.out _ _ (HCL.out _ HX.out) (fun hHeld => ?_)
                      clear hK K
                      try simp only [List.getElem_toArray, List.getElem_cons_zero, List.getElem_cons_succ, Act.put, List.setIfInBounds_toArray, List.set_cons_zero, List.set_cons_succ]
                      refine wpAnyH_take (i := 4) (oi := _) (v := ?_) rfl (by kernel_rfl) (by kernel_rfl) (by kernel_rfl) (fun _ _ _ h => h) (Or.inl ⟨by rfl, ?_⟩) (by assumption) ?_
                      rotate_left 1
                      · intro w hSw
                        (try dsimp only at hSw)
                        go_simp
                        (try with_reducible rfl)
                      try simp only [List.getElem_toArray, List.getElem_cons_zero, List.getElem_cons_succ, Act.put, List.setIfInBounds_toArray, List.set_cons_zero, List.set_cons_succ]
                      refine wpAnyH_take (i := 5) (oi := _) (v := ?_) rfl (by kernel_rfl) (by kernel_rfl) (by kernel_rfl) (fun _ _ _ h => h) (Or.inl ⟨by rfl, ?_⟩) (by assumption) ?_
                      rotate_left 1
                      · intro w hSw
                        (try dsimp only at hSw)
                        go_simp
                        (try with_reducible rfl)
                      try simp only [List.getElem_toArray, List.getElem_cons_zero, List.getElem_cons_succ, Act.put, List.setIfInBounds_toArray, List.set_cons_zero, List.set_cons_succ]
                      refine wpAnyH_take (i := 6) (oi := _) (v := ?_) rfl (by kernel_rfl) (by kernel_rfl) (by kernel_rfl) (fun _ _ _ h => h) (Or.inl ⟨by rfl, ?_⟩) (by assumption) ?_
                      rotate_left 1
                      · intro w hSw
                        (try dsimp only at hSw)
                        go_simp
                        (try with_reducible rfl)
                      try simp only [List.getElem_toArray, List.getElem_cons_zero, List.getElem_cons_succ, Act.put, List.setIfInBounds_toArray, List.set_cons_zero, List.set_cons_succ]
                      refine wpAnyH_ready (rs := [7, 17]) (by kernel_rfl) (by simp) ?_
                      refine AllReadyH.cons (o := _) rfl (fun K hK => ?_) ?_
                      · go_simp
                        refine (HPA.out _ HX.out).mono ?_
                        rintro e w10 ⟨rfl, hw10⟩
                        have HY := Lib.hid (HX.out.trans (hw10.mono HX.out.size))
                        have HX := Lib.hid HY.out
                        clear HY hw10
                        (try go_wp2_with (fail))
                        refine hK.out _ _ (HCL.out _ HX.out) (fun hHeld => ?_)
                        clear hK K
                        try simp only [List.getElem_toArray, List.getElem_cons_zero, List.getElem_cons_succ, Act.put, List.setIfInBounds_toArray, List.set_cons_zero, List.set_cons_succ]
                        refine wpAnyH_take (i := 8) (oi := _) (v := ?_) rfl (by kernel_rfl) (by kernel_rfl) (by kernel_rfl) (fun _ _ _ h => h) (Or.inl ⟨by rfl, ?_⟩) (by assumption) ?_
                        rotate_left 1
                        · intro w hSw
                          (try dsimp only at hSw)
                          go_simp
                          (try with_reducible rfl)
                        try simp only [List.getElem_toArray, List.getElem_cons_zero, List.getElem_cons_succ, Act.put, List.setIfInBounds_toArray, List.set_cons_zero, List.set_cons_succ]
                        refine wpAnyH_take (i := 9) (oi := _) (v := ?_) rfl (by kernel_rfl) (by kernel_rfl) (by kernel_rfl) (fun _ _ _ h => h) (Or.inl ⟨by rfl, ?_⟩) (by assumption) ?_
                        rotate_left 1
                        · intro w hSw
                          (try dsimp only at hSw)
                          go_simp
                          (try with_reducible rfl)
                        try simp only [List.getElem_toArray, List.getElem_cons_zero, List.getElem_cons_succ, Act.put, List.setIfInBounds_toArray, List.set_cons_zero, List.set_cons_succ]
                        refine wpAnyH_take (i := 10) (oi := _) (v := ?_) rfl (by kernel_rfl) (by kernel_rfl) (by kernel_rfl) (fun _ _ _ h => h) (Or.inl ⟨by rfl, ?_⟩) (by assumption) ?_
                        rotate_left 1
                        · intro w hSw
                          (try dsimp only at hSw)
                          go_simp
                          (try with_reducible rfl)
                        try simp only [List.getElem_toArray, List.getElem_cons_zero, List.getElem_cons_succ, Act.put, List.setIfInBounds_toArray, List.set_cons_zero, List.set_cons_succ]
                        refine wpAnyH_take (i := 11) (oi := _) (v := ?_) rfl (by kernel_rfl) (by kernel_rfl) (by kernel_rfl) (fun _ _ _ h => h) (Or.inl ⟨by rfl, ?_⟩) (by assumption) ?_
                        rotate_left 1
                        · intro w hSw
                          (try dsimp only at hSw)
                          go_simp
                          (try with_reducible rfl)
                        try simp only [List.getElem_toArray, List.getElem_cons_zero, List.getElem_cons_succ, Act.put, List.setIfInBounds_toArray, List.set_cons_zero, List.set_cons_succ]
                        refine wpAnyH_take (i := 12) (oi := _) (v := ?_) rfl (by kernel_rfl) (by kernel_rfl) (by kernel_rfl) (fun _ _ _ h => h) (Or.inl ⟨by rfl, ?_⟩) (by assumption) ?_
                        rotate_left 1
                        · intro w hSw
                          (try dsimp only at hSw)
                          go_simp
                          (try with_reducible rfl)
                        try simp only [List.getElem_toArray, List.getElem_cons_zero, List.getElem_cons_succ, Act.put, List.setIfInBounds_toArray, List.set_cons_zero, List.set_cons_succ]
                        refine wpAnyH_ready (rs := [17]) (by kernel_rfl) (by simp) ?_
                        refine AllReadyH.cons (o := _) rfl (fun K hK => ?_) AllReadyH.nil
                        go_simp
                        have HN := Lib.hid (And.intro (heap_alloc_new (w10) (.cells #[.string ⟨#[109, 101, 114, 103, 101]⟩, .string ⟨nm.toArray⟩, .string ⟨pt.toArray⟩] 9)) (HGO.out _ HX.out))
                        have HX := Lib.hid (HX.out.alloc HX.out.size (.cells #[.string ⟨#[109, 101, 114, 103, 101]⟩, .string ⟨nm.toArray⟩, .string ⟨pt.toArray⟩] 9))
                        refine hK.out _ _ (HCL.out _ HX.out) (fun hHeld => ?_)
                        clear hK K
                        try simp only [List.getElem_toArray, List.getElem_cons_zero, List.getElem_cons_succ, Act.put, List.setIfInBounds_toArray, List.set_cons_zero, List.set_cons_succ]
                        refine wpAnyH_ready (rs := [18]) (by kernel_rfl) (by simp) ?_
                        refine AllReadyH.cons (o := _) rfl (fun K hK => ?_) AllReadyH.nil
                        go_simp
                        refine (HSAY.out _ _ _ HX.out HN.out.1 HN.out.2).mono ?_
                        rintro e w11 ⟨rfl, h11, s9⟩
                        have HS11 := Lib.hid h11
                        clear h11
                        (try go_wp2_with (fail))
                        refine hK.out _ _ s9 (fun hHeld => ?_)
                        clear hK K
                        try simp only [List.getElem_toArray, List.getElem_cons_zero, List.getElem_cons_succ, Act.put, List.setIfInBounds_toArray, List.set_cons_zero, List.set_cons_succ]
                        refine wpAnyH_done (by kernel_rfl) ?_ _
                        refine NoPanic.normal ?_
                        go_wp2_with (fail)
                        go_roundw
                        case rel => exact ⟨i + 1, by omega, by go_num, Lib.hid (HEND.out _ _ (by simp [HI.out]) HS11.out)⟩
                        case measure => simp [intOf]; omega
                      refine AllReadyH.cons (o := _) rfl (fun K hK => ?_) AllReadyH.nil
                      go_simp
                      have HN := Lib.hid (And.intro (heap_alloc_new (w9) (.cells #[.string ⟨#[109, 101, 114, 103, 101]⟩, .string ⟨nm.toArray⟩, .string ⟨pt.toArray⟩] 9)) (HGO.out _ HX.out))
                      have HX := Lib.hid (HX.out.alloc HX.out.size (.cells #[.string ⟨#[109, 101, 114, 103, 101]⟩, .string ⟨nm.toArray⟩, .string ⟨pt.toArray⟩] 9))
                      refine hK.out _ _ (HCL.out _ HX.out) (fun hHeld => ?_)
                      clear hK K
                      try simp only [List.getElem_toArray, List.getElem_cons_zero, List.getElem_cons_succ, Act.put, List.setIfInBounds_toArray, List.set_cons_zero, List.set_cons_succ]
                      refine wpAnyH_ready (rs := [7]) (by kernel_rfl) (by simp) ?_
                      refine AllReadyH.cons (o := _) rfl (fun K hK => ?_) AllReadyH.nil
                      go_simp
                      refine (HPA.out _ HX.out).mono ?_
                      rintro e w10 ⟨rfl, hw10⟩
                      have HY := Lib.hid (HX.out.trans (hw10.mono HX.out.size))
                      have HN := Lib.hid (And.intro ((hw10.block _ (Array.getElem?_eq_some_iff.1 HN.out.1).1).trans HN.out.1) HN.out.2)
                      have HX := Lib.hid HY.out
                      clear HY hw10
                      (try go_wp2_with (fail))
                      refine hK.out _ _ (HCL.out _ HX.out) (fun hHeld => ?_)
                      clear hK K
                      try simp only [List.getElem_toArray, List.getElem_cons_zero, List.getElem_cons_succ, Act.put, List.setIfInBounds_toArray, List.set_cons_zero, List.set_cons_succ]
                      refine wpAnyH_take (i := 8) (oi := _) (v := ?_) rfl (by kernel_rfl) (by kernel_rfl) (by kernel_rfl) (fun _ _ _ h => h) (Or.inl ⟨by rfl, ?_⟩) (by assumption) ?_
                      rotate_left 1
                      · intro w hSw
                        (try dsimp only at hSw)
                        go_simp
                        (try with_reducible rfl)
                      try simp only [List.getElem_toArray, List.getElem_cons_zero, List.getElem_cons_succ, Act.put, List.setIfInBounds_toArray, List.set_cons_zero, List.set_cons_succ]
                      refine wpAnyH_take (i := 9) (oi := _) (v := ?_) rfl (by kernel_rfl) (by kernel_rfl) (by kernel_rfl) (fun _ _ _ h => h) (Or.inl ⟨by rfl, ?_⟩) (by assumption) ?_
                      rotate_left 1
                      · intro w hSw
                        (try dsimp only at hSw)
                        go_simp
                        (try with_reducible rfl)
                      try simp only [List.getElem_toArray, List.getElem_cons_zero, List.getElem_cons_succ, Act.put, List.setIfInBounds_toArray, List.set_cons_zero, List.set_cons_succ]
                      refine wpAnyH_take (i := 10) (oi := _) (v := ?_) rfl (by kernel_rfl) (by kernel_rfl) (by kernel_rfl) (fun _ _ _ h => h) (Or.inl ⟨by rfl, ?_⟩) (by assumption) ?_
                      rotate_left 1
                      · intro w hSw
                        (try dsimp only at hSw)
                        go_simp
                        (try with_reducible rfl)
                      try simp only [List.getElem_toArray, List.getElem_cons_zero, List.getElem_cons_succ, Act.put, List.setIfInBounds_toArray, List.set_cons_zero, List.set_cons_succ]
                      refine wpAnyH_take (i := 11) (oi := _) (v := ?_) rfl (by kernel_rfl) (by kernel_rfl) (by kernel_rfl) (fun _ _ _ h => h) (Or.inl ⟨by rfl, ?_⟩) (by assumption) ?_
                      rotate_left 1
                      · intro w hSw
                        (try dsimp only at hSw)
                        go_simp
                        (try with_reducible rfl)
                      try simp only [List.getElem_toArray, List.getElem_cons_zero, List.getElem_cons_succ, Act.put, List.setIfInBounds_toArray, List.set_cons_zero, List.set_cons_succ]
                      refine wpAnyH_take (i := 12) (oi := _) (v := ?_) rfl (by kernel_rfl) (by kernel_rfl) (by kernel_rfl) (fun _ _ _ h => h) (Or.inl ⟨by rfl, ?_⟩) (by assumption) ?_
                      rotate_left 1
                      · intro w hSw
                        (try dsimp only at hSw)
                        go_simp
                        (try with_reducible rfl)
                      try simp only [List.getElem_toArray, List.getElem_cons_zero, List.getElem_cons_succ, Act.put, List.setIfInBounds_toArray, List.set_cons_zero, List.set_cons_succ]
                      refine wpAnyH_ready (rs := [18]) (by kernel_rfl) (by simp) ?_
                      refine AllReadyH.cons (o := _) rfl (fun K hK => ?_) AllReadyH.nil
                      go_simp
                      refine (HSAY.out _ _ _ HX.out HN.out.1 HN.out.2).mono ?_
                      rintro e w11 ⟨rfl, h11, s9⟩
                      have HS11 := Lib.hid h11
                      clear h11
                      (try go_wp2_with (fail))
                      refine hK.out _ _ s9 (fun hHeld => ?_)
                      clear hK K
                      try simp only [List.getElem_toArray, List.getElem_cons_zero, List.getElem_cons_succ, Act.put, List.setIfInBounds_toArray, List.set_cons_zero, List.set_cons_succ]
                      refine wpAnyH_done (by kernel_rfl) ?_ _
                      refine NoPanic.normal ?_
                      go_wp2_with (fail)
                      go_roundw
                      case rel => exact ⟨i + 1, by omega, by go_num, Lib.hid (HEND.out _ _ (by simp [HI.out]) HS11.out)⟩
                      case measure => simp [intOf]; omega
                    refine AllReadyH.cons (o := _) rfl (fun K hK => ?_) AllReadyH.nil
                    go_simp
                    have HN := Lib.hid (And.intro (heap_alloc_new (W1.drew) (.cells #[.string ⟨#[109, 101, 114, 103, 101]⟩, .string ⟨nm.toArray⟩, .string ⟨pt.toArray⟩] 9)) (HGO.out _ HX.out))
                    have HX := Lib.hid (HX.out.alloc HX.out.size (.cells #[.string ⟨#[109, 101, 114, 103, 101]⟩, .string ⟨nm.toArray⟩, .string ⟨pt.toArray⟩] 9))
                    refine hK.out _ _ (HCL.out _ HX.out) (fun hHeld => ?_)
                    clear hK K
                    try simp only [List.getElem_toArray, List.getElem_cons_zero, List.getElem_cons_succ, Act.put, List.setIfInBounds_toArray, List.set_cons_zero, List.set_cons_succ]
                    refine wpAnyH_ready (rs := [3]) (by kernel_rfl) (by simp) ?_
                    refine AllReadyH.cons (o := _) rfl (fun K hK => ?_) AllReadyH.nil
                    go_simp
                    refine (HWD.out _).mono ?_
                    rintro e w9 ⟨rfl, hw9⟩
                    have HY := Lib.hid (HX.out.trans (hw9.mono HX.out.size))
                    have HN := Lib.hid (And.intro ((hw9.block _ (Array.getElem?_eq_some_iff.1 HN.out.1).1).trans HN.out.1) HN.out.2)
                    have HX := Lib.hid HY.out
                    clear HY hw9
                    (try go_wp2_with (fail))
                    refine hK.out _ _ (HCL.out _ HX.out) (fun hHeld => ?_)
                    clear hK K
                    try simp only [List.getElem_toArray, List.getElem_cons_zero, List.getElem_cons_succ, Act.put, List.setIfInBounds_toArray, List.set_cons_zero, List.set_cons_succ]
                    refine wpAnyH_take (i := 4) (oi := _) (v := ?_) rfl (by kernel_rfl) (by kernel_rfl) (by kernel_rfl) (fun _ _ _ h => h) (Or.inl ⟨by rfl, ?_⟩) (by assumption) ?_
                    rotate_left 1
                    · intro w hSw
                      (try dsimp only at hSw)
                      go_simp
                      (try with_reducible rfl)
                    try simp only [List.getElem_toArray, List.getElem_cons_zero, List.getElem_cons_succ, Act.put, List.setIfInBounds_toArray, List.set_cons_zero, List.set_cons_succ]
                    refine wpAnyH_take (i := 5) (oi := _) (v := ?_) rfl (by kernel_rfl) (by kernel_rfl) (by kernel_rfl) (fun _ _ _ h => h) (Or.inl ⟨by rfl, ?_⟩) (by assumption) ?_
                    rotate_left 1
                    · intro w hSw
                      (try dsimp only at hSw)
                      go_simp
                      (try with_reducible rfl)
                    try simp only [List.getElem_toArray, List.getElem_cons_zero, List.getElem_cons_succ, Act.put, List.setIfInBounds_toArray, List.set_cons_zero, List.set_cons_succ]
                    refine wpAnyH_take (i := 6) (oi := _) (v := ?_) rfl (by kernel_rfl) (by kernel_rfl) (by kernel_rfl) (fun _ _ _ h => h) (Or.inl ⟨by rfl, ?_⟩) (by assumption) ?_
                    rotate_left 1
                    · intro w hSw
                      (try dsimp only at hSw)
                      go_simp
                      (try with_reducible rfl)
                    try simp only [List.getElem_toArray, List.getElem_cons_zero, List.getElem_cons_succ, Act.put, List.setIfInBounds_toArray, List.set_cons_zero, List.set_cons_succ]
                    refine wpAnyH_ready (rs := [7]) (by kernel_rfl) (by simp) ?_
                    refine AllReadyH.cons (o := _) rfl (fun K hK => ?_) AllReadyH.nil
                    go_simp
                    refine (HPA.out _ HX.out).mono ?_
                    rintro e w10 ⟨rfl, hw10⟩
                    have HY := Lib.hid (HX.out.trans (hw10.mono HX.out.size))
                    have HN := Lib.hid (And.intro ((hw10.block _ (Array.getElem?_eq_some_iff.1 HN.out.1).1).trans HN.out.1) HN.out.2)
                    have HX := Lib.hid HY.out
                    clear HY hw10
                    (try go_wp2_with (fail))
                    refine hK.out _ _ (HCL.out _ HX.out) (fun hHeld => ?_)
                    clear hK K
                    try simp only [List.getElem_toArray, List.getElem_cons_zero, List.getElem_cons_succ, Act.put, List.setIfInBounds_toArray, List.set_cons_zero, List.set_cons_succ]
                    refine wpAnyH_take (i := 8) (oi := _) (v := ?_) rfl (by kernel_rfl) (by kernel_rfl) (by kernel_rfl) (fun _ _ _ h => h) (Or.inl ⟨by rfl, ?_⟩) (by assumption) ?_
                    rotate_left 1
                    · intro w hSw
                      (try dsimp only at hSw)
                      go_simp
                      (try with_reducible rfl)
                    try simp only [List.getElem_toArray, List.getElem_cons_zero, List.getElem_cons_succ, Act.put, List.setIfInBounds_toArray, List.set_cons_zero, List.set_cons_succ]
                    refine wpAnyH_take (i := 9) (oi := _) (v := ?_) rfl (by kernel_rfl) (by kernel_rfl) (by kernel_rfl) (fun _ _ _ h => h) (Or.inl ⟨by rfl, ?_⟩) (by assumption) ?_
                    rotate_left 1
                    · intro w hSw
                      (try dsimp only at hSw)
                      go_simp
                      (try with_reducible rfl)
                    try simp only [List.getElem_toArray, List.getElem_cons_zero, List.getElem_cons_succ, Act.put, List.setIfInBounds_toArray, List.set_cons_zero, List.set_cons_succ]
                    refine wpAnyH_take (i := 10) (oi := _) (v := ?_) rfl (by kernel_rfl) (by kernel_rfl) (by kernel_rfl) (fun _ _ _ h => h) (Or.inl ⟨by rfl, ?_⟩) (by assumption) ?_
                    rotate_left 1
                    · intro w hSw
                      (try dsimp only at hSw)
                      go_simp
                      (try with_reducible rfl)
                    try simp only [List.getElem_toArray, List.getElem_cons_zero, List.getElem_cons_succ, Act.put, List.setIfInBounds_toArray, List.set_cons_zero, List.set_cons_succ]
                    refine wpAnyH_take (i := 11) (oi := _) (v := ?_) rfl (by kernel_rfl) (by kernel_rfl) (by kernel_rfl) (fun _ _ _ h => h) (Or.inl ⟨by rfl, ?_⟩) (by assumption) ?_
                    rotate_left 1
                    · intro w hSw
                      (try dsimp only at hSw)
                      go_simp
                      (try with_reducible rfl)
                    try simp only [List.getElem_toArray, List.getElem_cons_zero, List.getElem_cons_succ, Act.put, List.setIfInBounds_toArray, List.set_cons_zero, List.set_cons_succ]
                    refine wpAnyH_take (i := 12) (oi := _) (v := ?_) rfl (by kernel_rfl) (by kernel_rfl) (by kernel_rfl) (fun _ _ _ h => h) (Or.inl ⟨by rfl, ?_⟩) (by assumption) ?_
                    rotate_left 1
                    · intro w hSw
                      (try dsimp only at hSw)
                      go_simp
                      (try with_reducible rfl)
                    try simp only [List.getElem_toArray, List.getElem_cons_zero, List.getElem_cons_succ, Act.put, List.setIfInBounds_toArray, List.set_cons_zero, List.set_cons_succ]
                    refine wpAnyH_ready (rs := [18]) (by kernel_rfl) (by simp) ?_
                    refine AllReadyH.cons (o := _) rfl (fun K hK => ?_) AllReadyH.nil
                    go_simp
                    refine (HSAY.out _ _ _ HX.out HN.out.1 HN.out.2).mono ?_
                    rintro e w11 ⟨rfl, h11, s9⟩
                    have HS11 := Lib.hid h11
                    clear h11
                    (try go_wp2_with (fail))
                    refine hK.out _ _ s9 (fun hHeld => ?_)
                    clear hK K
                    try simp only [List.getElem_toArray, List.getElem_cons_zero, List.getElem_cons_succ, Act.put, List.setIfInBounds_toArray, List.set_cons_zero, List.set_cons_succ]
                    refine wpAnyH_done (by kernel_rfl) ?_ _
                    refine NoPanic.normal ?_
                    go_wp2_with (fail)
                    go_roundw
                    case rel => exact ⟨i + 1, by omega, by go_num, Lib.hid (HEND.out _ _ (by simp [HI.out]) HS11.out)⟩
                    case measure => simp [intOf]; omega

                  · have g : ¬ (i : Int) < 100 := by omega
                    have HI := Lib.hid h100
                    clear h100
                    have HX := Lib.hid (drewP W1)
                    refine wp_region_noPanic ?_
                    refine wp_region_held_drew (S := fun W => W.cell? ⟨w.heap.size + 1 + 1 + 1, 0, none⟩ = some (.func (.func 17) #[] #[.pointer (some ⟨w.heap.size + 1 + 1, 0, none⟩), .pointer (some ⟨w.heap.size + 1, 0, none⟩)]) ∧ W.cell? ⟨wr.heap.size, 0, none⟩ = some (.string ⟨nm.toArray⟩) ∧ W.cell? ⟨wr.heap.size, 1, none⟩ = some (.string ⟨pt.toArray⟩)) (by kernel_rfl) (HCL.out _ HX.out) (fun hHeld => ?_)
                    refine wpAnyH_take (i := 0) (oi := _) (v := ?_) rfl (by kernel_rfl) (by kernel_rfl) (by kernel_rfl) (fun _ _ _ h => h) (Or.inl ⟨by rfl, ?_⟩) (by assumption) ?_
                    rotate_left 1
                    · intro w hSw
                      (try dsimp only at hSw)
                      go_simp
                      (try with_reducible rfl)
                    try simp only [List.getElem_toArray, List.getElem_cons_zero, List.getElem_cons_succ, Act.put, List.setIfInBounds_toArray, List.set_cons_zero, List.set_cons_succ]
                    refine wpAnyH_take (i := 1) (oi := _) (v := ?_) rfl (by kernel_rfl) (by kernel_rfl) (by kernel_rfl) (fun _ _ _ h => h) (Or.inl ⟨by rfl, ?_⟩) (by assumption) ?_
                    rotate_left 1
                    · intro w hSw
                      (try dsimp only at hSw)
                      go_simp
                      (try with_reducible rfl)
                    try simp only [List.getElem_toArray, List.getElem_cons_zero, List.getElem_cons_succ, Act.put, List.setIfInBounds_toArray, List.set_cons_zero, List.set_cons_succ]
                    refine wpAnyH_take (i := 2) (oi := _) (v := ?_) rfl (by kernel_rfl) (by kernel_rfl) (by kernel_rfl) (fun _ _ _ h => h) (Or.inl ⟨by rfl, ?_⟩) (by assumption) ?_
                    rotate_left 1
                    · intro w hSw
                      (try dsimp only at hSw)
                      go_simp
                      (try with_reducible rfl)
                    try simp only [List.getElem_toArray, List.getElem_cons_zero, List.getElem_cons_succ, Act.put, List.setIfInBounds_toArray, List.set_cons_zero, List.set_cons_succ]
                    refine wpAnyH_take (i := 13) (oi := _) (v := ?_) rfl (by kernel_rfl) (by kernel_rfl) (by kernel_rfl) (fun _ _ _ h => h) (Or.inl ⟨by rfl, ?_⟩) (by assumption) ?_
                    rotate_left 1
                    · intro w hSw
                      (try dsimp only at hSw)
                      go_simp
                      (try with_reducible rfl)
                    try simp only [List.getElem_toArray, List.getElem_cons_zero, List.getElem_cons_succ, Act.put, List.setIfInBounds_toArray, List.set_cons_zero, List.set_cons_succ]
                    refine wpAnyH_take (i := 14) (oi := _) (v := ?_) rfl (by kernel_rfl) (by kernel_rfl) (by kernel_rfl) (fun _ _ _ h => h) (Or.inl ⟨by rfl, ?_⟩) (by assumption) ?_
                    rotate_left 1
                    · intro w hSw
                      (try dsimp only at hSw)
                      go_simp
                      (try with_reducible rfl)
                    try simp only [List.getElem_toArray, List.getElem_cons_zero, List.getElem_cons_succ, Act.put, List.setIfInBounds_toArray, List.set_cons_zero, List.set_cons_succ]
                    refine wpAnyH_take (i := 15) (oi := _) (v := ?_) rfl (by kernel_rfl) (by kernel_rfl) (by kernel_rfl) (fun _ _ _ h => h) (Or.inl ⟨by rfl, ?_⟩) (by assumption) ?_
                    rotate_left 1
                    · intro w hSw
                      (try dsimp only at hSw)
                      go_simp
                      (try with_reducible rfl)
                    try simp only [List.getElem_toArray, List.getElem_cons_zero, List.getElem_cons_succ, Act.put, List.setIfInBounds_toArray, List.set_cons_zero, List.set_cons_succ]
                    refine wpAnyH_take (i := 16) (oi := _) (v := ?_) rfl (by kernel_rfl) (by kernel_rfl) (by kernel_rfl) (fun _ _ _ h => h) (Or.inl ⟨by rfl, ?_⟩) (by assumption) ?_
                    rotate_left 1
                    · intro w hSw
                      (try dsimp only at hSw)
                      go_simp
                      (try with_reducible rfl)
                    try simp only [List.getElem_toArray, List.getElem_cons_zero, List.getElem_cons_succ, Act.put, List.setIfInBounds_toArray, List.set_cons_zero, List.set_cons_succ]
                    refine wpAnyH_ready (rs := [3, 17]) (by kernel_rfl) (by simp) ?_
                    refine AllReadyH.cons (o := _) rfl (fun K hK => ?_) ?_
                    · go_simp
                      refine (HWD.out _).mono ?_
                      rintro e w9 ⟨rfl, hw9⟩
                      have HY := Lib.hid (HX.out.trans (hw9.mono HX.out.size))
                      have HX := Lib.hid HY.out
                      clear HY hw9
                      (try go_wp2_with (fail))
                      refine hK.out _ _ (HCL.out _ HX.out) (fun hHeld => ?_)
                      clear hK K
                      try simp only [List.getElem_toArray, List.getElem_cons_zero, List.getElem_cons_succ, Act.put, List.setIfInBounds_toArray, List.set_cons_zero, List.set_cons_succ]
                      refine wpAnyH_take (i := 4) (oi := _) (v := ?_) rfl (by kernel_rfl) (by kernel_rfl) (by kernel_rfl) (fun _ _ _ h => h) (Or.inl ⟨by rfl, ?_⟩) (by assumption) ?_
                      rotate_left 1
                      · intro w hSw
                        (try dsimp only at hSw)
                        go_simp
                        (try with_reducible rfl)
                      try simp only [List.getElem_toArray, List.getElem_cons_zero, List.getElem_cons_succ, Act.put, List.setIfInBounds_toArray, List.set_cons_zero, List.set_cons_succ]
                      refine wpAnyH_take (i := 5) (oi := _) (v := ?_) rfl (by kernel_rfl) (by kernel_rfl) (by kernel_rfl) (fun _ _ _ h => h) (Or.inl ⟨by rfl, ?_⟩) (by assumption) ?_
                      rotate_left 1
                      · intro w hSw
                        (try dsimp only at hSw)
                        go_simp
                        (try with_reducible rfl)
                      try simp only [List.getElem_toArray, List.getElem_cons_zero, List.getElem_cons_succ, Act.put, List.setIfInBounds_toArray, List.set_cons_zero, List.set_cons_succ]
                      refine wpAnyH_take (i := 6) (oi := _) (v := ?_) rfl (by kernel_rfl) (by kernel_rfl) (by kernel_rfl) (fun _ _ _ h => h) (Or.inl ⟨by rfl, ?_⟩) (by assumption) ?_
                      rotate_left 1
                      · intro w hSw
                        (try dsimp only at hSw)
                        go_simp
                        (try with_reducible rfl)
                      try simp only [List.getElem_toArray, List.getElem_cons_zero, List.getElem_cons_succ, Act.put, List.setIfInBounds_toArray, List.set_cons_zero, List.set_cons_succ]
                      refine wpAnyH_ready (rs := [7, 17]) (by kernel_rfl) (by simp) ?_
                      refine AllReadyH.cons (o := _) rfl (fun K hK => ?_) ?_
                      · go_simp
                        refine (HPA.out _ HX.out).mono ?_
                        rintro e w10 ⟨rfl, hw10⟩
                        have HY := Lib.hid (HX.out.trans (hw10.mono HX.out.size))
                        have HX := Lib.hid HY.out
                        clear HY hw10
                        (try go_wp2_with (fail))
                        refine hK.out _ _ (HCL.out _ HX.out) (fun hHeld => ?_)
                        clear hK K
                        try simp only [List.getElem_toArray, List.getElem_cons_zero, List.getElem_cons_succ, Act.put, List.setIfInBounds_toArray, List.set_cons_zero, List.set_cons_succ]
                        refine wpAnyH_take (i := 8) (oi := _) (v := ?_) rfl (by kernel_rfl) (by kernel_rfl) (by kernel_rfl) (fun _ _ _ h => h) (Or.inl ⟨by rfl, ?_⟩) (by assumption) ?_
                        rotate_left 1
                        · intro w hSw
                          (try dsimp only at hSw)
                          go_simp
                          (try with_reducible rfl)
                        try simp only [List.getElem_toArray, List.getElem_cons_zero, List.getElem_cons_succ, Act.put, List.setIfInBounds_toArray, List.set_cons_zero, List.set_cons_succ]
                        refine wpAnyH_take (i := 9) (oi := _) (v := ?_) rfl (by kernel_rfl) (by kernel_rfl) (by kernel_rfl) (fun _ _ _ h => h) (Or.inl ⟨by rfl, ?_⟩) (by assumption) ?_
                        rotate_left 1
                        · intro w hSw
                          (try dsimp only at hSw)
                          go_simp
                          (try with_reducible rfl)
                        try simp only [List.getElem_toArray, List.getElem_cons_zero, List.getElem_cons_succ, Act.put, List.setIfInBounds_toArray, List.set_cons_zero, List.set_cons_succ]
                        refine wpAnyH_take (i := 10) (oi := _) (v := ?_) rfl (by kernel_rfl) (by kernel_rfl) (by kernel_rfl) (fun _ _ _ h => h) (Or.inl ⟨by rfl, ?_⟩) (by assumption) ?_
                        rotate_left 1
                        · intro w hSw
                          (try dsimp only at hSw)
                          go_simp
                          (try with_reducible rfl)
                        try simp only [List.getElem_toArray, List.getElem_cons_zero, List.getElem_cons_succ, Act.put, List.setIfInBounds_toArray, List.set_cons_zero, List.set_cons_succ]
                        refine wpAnyH_take (i := 11) (oi := _) (v := ?_) rfl (by kernel_rfl) (by kernel_rfl) (by kernel_rfl) (fun _ _ _ h => h) (Or.inl ⟨by rfl, ?_⟩) (by assumption) ?_
                        rotate_left 1
                        · intro w hSw
                          (try dsimp only at hSw)
                          go_simp
                          (try with_reducible rfl)
                        try simp only [List.getElem_toArray, List.getElem_cons_zero, List.getElem_cons_succ, Act.put, List.setIfInBounds_toArray, List.set_cons_zero, List.set_cons_succ]
                        refine wpAnyH_take (i := 12) (oi := _) (v := ?_) rfl (by kernel_rfl) (by kernel_rfl) (by kernel_rfl) (fun _ _ _ h => h) (Or.inl ⟨by rfl, ?_⟩) (by assumption) ?_
                        rotate_left 1
                        · intro w hSw
                          (try dsimp only at hSw)
                          go_simp
                          (try with_reducible rfl)
                        try simp only [List.getElem_toArray, List.getElem_cons_zero, List.getElem_cons_succ, Act.put, List.setIfInBounds_toArray, List.set_cons_zero, List.set_cons_succ]
                        refine wpAnyH_ready (rs := [17]) (by kernel_rfl) (by simp) ?_
                        refine AllReadyH.cons (o := _) rfl (fun K hK => ?_) AllReadyH.nil
                        go_simp
                        have HN := Lib.hid (And.intro (heap_alloc_new (w10) (.cells #[.string ⟨#[109, 101, 114, 103, 101]⟩, .string ⟨nm.toArray⟩, .string ⟨pt.toArray⟩] 9)) (HGO.out _ HX.out))
                        have HX := Lib.hid (HX.out.alloc HX.out.size (.cells #[.string ⟨#[109, 101, 114, 103, 101]⟩, .string ⟨nm.toArray⟩, .string ⟨pt.toArray⟩] 9))
                        refine hK.out _ _ (HCL.out _ HX.out) (fun hHeld => ?_)
                        clear hK K
                        try simp only [List.getElem_toArray, List.getElem_cons_zero, List.getElem_cons_succ, Act.put, List.setIfInBounds_toArray, List.set_cons_zero, List.set_cons_succ]
                        refine wpAnyH_ready (rs := [18]) (by kernel_rfl) (by simp) ?_
                        refine AllReadyH.cons (o := _) rfl (fun K hK => ?_) AllReadyH.nil
                        go_simp
                        refine (HSAY.out _ _ _ HX.out HN.out.1 HN.out.2).mono ?_
                        rintro e w11 ⟨rfl, h11, s9⟩
                        have HS11 := Lib.hid h11
                        clear h11
                        (try go_wp2_with (fail))
                        refine hK.out _ _ s9 (fun hHeld => ?_)
                        clear hK K
                        try simp only [List.getElem_toArray, List.getElem_cons_zero, List.getElem_cons_succ, Act.put, List.setIfInBounds_toArray, List.set_cons_zero, List.set_cons_succ]
                        refine wpAnyH_done (by kernel_rfl) ?_ _
                        refine NoPanic.normal ?_
                        go_wp2_with (fail)
                        go_roundw
                        case rel => exact ⟨i + 1, by omega, by go_num, Lib.hid (HEND.out _ _ (by rw [Bool.true_and, Bool.true_and, Bool.eq_iff_iff, decide_eq_true_eq, decide_eq_true_eq]; omega) HS11.out)⟩
                        case measure => simp [intOf]; omega
                      refine AllReadyH.cons (o := _) rfl (fun K hK => ?_) AllReadyH.nil
                      go_simp
                      have HN := Lib.hid (And.intro (heap_alloc_new (w9) (.cells #[.string ⟨#[109, 101, 114, 103, 101]⟩, .string ⟨nm.toArray⟩, .string ⟨pt.toArray⟩] 9)) (HGO.out _ HX.out))
                      have HX := Lib.hid (HX.out.alloc HX.out.size (.cells #[.string ⟨#[109, 101, 114, 103, 101]⟩, .string ⟨nm.toArray⟩, .string ⟨pt.toArray⟩] 9))
                      refine hK.out _ _ (HCL.out _ HX.out) (fun hHeld => ?_)
                      clear hK K
                      try simp only [List.getElem_toArray, List.getElem_cons_zero, List.getElem_cons_succ, Act.put, List.setIfInBounds_toArray, List.set_cons_zero, List.set_cons_succ]
                      refine wpAnyH_ready (rs := [7]) (by kernel_rfl) (by simp) ?_
                      refine AllReadyH.cons (o := _) rfl (fun K hK => ?_) AllReadyH.nil
                      go_simp
                      refine (HPA.out _ HX.out).mono ?_
                      rintro e w10 ⟨rfl, hw10⟩
                      have HY := Lib.hid (HX.out.trans (hw10.mono HX.out.size))
                      have HN := Lib.hid (And.intro ((hw10.block _ (Array.getElem?_eq_some_iff.1 HN.out.1).1).trans HN.out.1) HN.out.2)
                      have HX := Lib.hid HY.out
                      clear HY hw10
                      (try go_wp2_with (fail))
                      refine hK.out _ _ (HCL.out _ HX.out) (fun hHeld => ?_)
                      clear hK K
                      try simp only [List.getElem_toArray, List.getElem_cons_zero, List.getElem_cons_succ, Act.put, List.setIfInBounds_toArray, List.set_cons_zero, List.set_cons_succ]
                      refine wpAnyH_take (i := 8) (oi := _) (v := ?_) rfl (by kernel_rfl) (by kernel_rfl) (by kernel_rfl) (fun _ _ _ h => h) (Or.inl ⟨by rfl, ?_⟩) (by assumption) ?_
                      rotate_left 1
                      · intro w hSw
                        (try dsimp only at hSw)
                        go_simp
                        (try with_reducible rfl)
                      try simp only [List.getElem_toArray, List.getElem_cons_zero, List.getElem_cons_succ, Act.put, List.setIfInBounds_toArray, List.set_cons_zero, List.set_cons_succ]
                      refine wpAnyH_take (i := 9) (oi := _) (v := ?_) rfl (by kernel_rfl) (by kernel_rfl) (by kernel_rfl) (fun _ _ _ h => h) (Or.inl ⟨by rfl, ?_⟩) (by assumption) ?_
                      rotate_left 1
                      · intro w hSw
                        (try dsimp only at hSw)
                        go_simp
                        (try with_reducible rfl)
                      try simp only [List.getElem_toArray, List.getElem_cons_zero, List.getElem_cons_succ, Act.put, List.setIfInBounds_toArray, List.set_cons_zero, List.set_cons_succ]
                      refine wpAnyH_take (i := 10) (oi := _) (v := ?_) rfl (by kernel_rfl) (by kernel_rfl) (by kernel_rfl) (fun _ _ _ h => h) (Or.inl ⟨by rfl, ?_⟩) (by assumption) ?_
                      rotate_left 1
                      · intro w hSw
                        (try dsimp only at hSw)
                        go_simp
                        (try with_reducible rfl)
                      try simp only [List.getElem_toArray, List.getElem_cons_zero, List.getElem_cons_succ, Act.put, List.setIfInBounds_toArray, List.set_cons_zero, List.set_cons_succ]
                      refine wpAnyH_take (i := 11) (oi := _) (v := ?_) rfl (by kernel_rfl) (by kernel_rfl) (by kernel_rfl) (fun _ _ _ h => h) (Or.inl ⟨by rfl, ?_⟩) (by assumption) ?_
                      rotate_left 1
                      · intro w hSw
                        (try dsimp only at hSw)
                        go_simp
                        (try with_reducible rfl)
                      try simp only [List.getElem_toArray, List.getElem_cons_zero, List.getElem_cons_succ, Act.put, List.setIfInBounds_toArray, List.set_cons_zero, List.set_cons_succ]
                      refine wpAnyH_take (i := 12) (oi := _) (v := ?_) rfl (by kernel_rfl) (by kernel_rfl) (by kernel_rfl) (fun _ _ _ h => h) (Or.inl ⟨by rfl, ?_⟩) (by assumption) ?_
                      rotate_left 1
                      · intro w hSw
                        (try dsimp only at hSw)
                        go_simp
                        (try with_reducible rfl)
                      try simp only [List.getElem_toArray, List.getElem_cons_zero, List.getElem_cons_succ, Act.put, List.setIfInBounds_toArray, List.set_cons_zero, List.set_cons_succ]
                      refine wpAnyH_ready (rs := [18]) (by kernel_rfl) (by simp) ?_
                      refine AllReadyH.cons (o := _) rfl (fun K hK => ?_) AllReadyH.nil
                      go_simp
                      refine (HSAY.out _ _ _ HX.out HN.out.1 HN.out.2).mono ?_
                      rintro e w11 ⟨rfl, h11, s9⟩
                      have HS11 := Lib.hid h11
                      clear h11
                      (try go_wp2_with (fail))
                      refine hK.out _ _ s9 (fun hHeld => ?_)
                      clear hK K
                      try simp only [List.getElem_toArray, List.getElem_cons_zero, List.getElem_cons_succ, Act.put, List.setIfInBounds_toArray, List.set_cons_zero, List.set_cons_succ]
                      refine wpAnyH_done (by kernel_rfl) ?_ _
                      refine NoPanic.normal ?_
                      go_wp2_with (fail)
                      go_roundw
                      case rel => exact ⟨i + 1, by omega, by go_num, Lib.hid (HEND.out _ _ (by rw [Bool.true_and, Bool.true_and, Bool.eq_iff_iff, decide_eq_true_eq, decide_eq_true_eq]; omega) HS11.out)⟩
                      case measure => simp [intOf]; omega
                    refine AllReadyH.cons (o := _) rfl (fun K hK => ?_) AllReadyH.nil
                    go_simp
                    have HN := Lib.hid (And.intro (heap_alloc_new (W1.drew) (.cells #[.string ⟨#[109, 101, 114, 103, 101]⟩, .string ⟨nm.toArray⟩, .string ⟨pt.toArray⟩] 9)) (HGO.out _ HX.out))
                    have HX := Lib.hid (HX.out.alloc HX.out.size (.cells #[.string ⟨#[109, 101, 114, 103, 101]⟩, .string ⟨nm.toArray⟩, .string ⟨pt.toArray⟩] 9))
                    refine hK.out _ _ (HCL.out _ HX.out) (fun hHeld => ?_)
                    clear hK K
                    try simp only [List.getElem_toArray, List.getElem_cons_zero, List.getElem_cons_succ, Act.put, List.setIfInBounds_toArray, List.set_cons_zero, List.set_cons_succ]
                    refine wpAnyH_ready (rs := [3]) (by kernel_rfl) (by simp) ?_
                    refine AllReadyH.cons (o := _) rfl (fun K hK => ?_) AllReadyH.nil
                    go_simp
                    refine (HWD.out _).mono ?_
                    rintro e w9 ⟨rfl, hw9⟩
                    have HY := Lib.hid (HX.out.trans (hw9.mono HX.out.size))
                    have HN := Lib.hid (And.intro ((hw9.block _ (Array.getElem?_eq_some_iff.1 HN.out.1).1).trans HN.out.1) HN.out.2)
                    have HX := Lib.hid HY.out
                    clear HY hw9
                    (try go_wp2_with (fail))
                    refine hK.out _ _ (HCL.out _ HX.out) (fun hHeld => ?_)
                    clear hK K
                    try simp only [List.getElem_toArray, List.getElem_cons_zero, List.getElem_cons_succ, Act.put, List.setIfInBounds_toArray, List.set_cons_zero, List.set_cons_succ]
                    refine wpAnyH_take (i := 4) (oi := _) (v := ?_) rfl (by kernel_rfl) (by kernel_rfl) (by kernel_rfl) (fun _ _ _ h => h) (Or.inl ⟨by rfl, ?_⟩) (by assumption) ?_
                    rotate_left 1
                    · intro w hSw
                      (try dsimp only at hSw)
                      go_simp
                      (try with_reducible rfl)
                    try simp only [List.getElem_toArray, List.getElem_cons_zero, List.getElem_cons_succ, Act.put, List.setIfInBounds_toArray, List.set_cons_zero, List.set_cons_succ]
                    refine wpAnyH_take (i := 5) (oi := _) (v := ?_) rfl (by kernel_rfl) (by kernel_rfl) (by kernel_rfl) (fun _ _ _ h => h) (Or.inl ⟨by rfl, ?_⟩) (by assumption) ?_
                    rotate_left 1
                    · intro w hSw
                      (try dsimp only at hSw)
                      go_simp
                      (try with_reducible rfl)
                    try simp only [List.getElem_toArray, List.getElem_cons_zero, List.getElem_cons_succ, Act.put, List.setIfInBounds_toArray, List.set_cons_zero, List.set_cons_succ]
                    refine wpAnyH_take (i := 6) (oi := _) (v := ?_) rfl (by kernel_rfl) (by kernel_rfl) (by kernel_rfl) (fun _ _ _ h => h) (Or.inl ⟨by rfl, ?_⟩) (by assumption) ?_
                    rotate_left 1
                    · intro w hSw
                      (try dsimp only at hSw)
                      go_simp
                      (try with_reducible rfl)
                    try simp only [List.getElem_toArray, List.getElem_cons_zero, List.getElem_cons_succ, Act.put, List.setIfInBounds_toArray, List.set_cons_zero, List.set_cons_succ]
                    refine wpAnyH_ready (rs := [7]) (by kernel_rfl) (by simp) ?_
                    refine AllReadyH.cons (o := _) rfl (fun K hK => ?_) AllReadyH.nil
                    go_simp
                    refine (HPA.out _ HX.out).mono ?_
                    rintro e w10 ⟨rfl, hw10⟩
                    have HY := Lib.hid (HX.out.trans (hw10.mono HX.out.size))
                    have HN := Lib.hid (And.intro ((hw10.block _ (Array.getElem?_eq_some_iff.1 HN.out.1).1).trans HN.out.1) HN.out.2)
                    have HX := Lib.hid HY.out
                    clear HY hw10
                    (try go_wp2_with (fail))
                    refine hK.out _ _ (HCL.out _ HX.out) (fun hHeld => ?_)
                    clear hK K
                    try simp only [List.getElem_toArray, List.getElem_cons_zero, List.getElem_cons_succ, Act.put, List.setIfInBounds_toArray, List.set_cons_zero, List.set_cons_succ]
                    refine wpAnyH_take (i := 8) (oi := _) (v := ?_) rfl (by kernel_rfl) (by kernel_rfl) (by kernel_rfl) (fun _ _ _ h => h) (Or.inl ⟨by rfl, ?_⟩) (by assumption) ?_
                    rotate_left 1
                    · intro w hSw
                      (try dsimp only at hSw)
                      go_simp
                      (try with_reducible rfl)
                    try simp only [List.getElem_toArray, List.getElem_cons_zero, List.getElem_cons_succ, Act.put, List.setIfInBounds_toArray, List.set_cons_zero, List.set_cons_succ]
                    refine wpAnyH_take (i := 9) (oi := _) (v := ?_) rfl (by kernel_rfl) (by kernel_rfl) (by kernel_rfl) (fun _ _ _ h => h) (Or.inl ⟨by rfl, ?_⟩) (by assumption) ?_
                    rotate_left 1
                    · intro w hSw
                      (try dsimp only at hSw)
                      go_simp
                      (try with_reducible rfl)
                    try simp only [List.getElem_toArray, List.getElem_cons_zero, List.getElem_cons_succ, Act.put, List.setIfInBounds_toArray, List.set_cons_zero, List.set_cons_succ]
                    refine wpAnyH_take (i := 10) (oi := _) (v := ?_) rfl (by kernel_rfl) (by kernel_rfl) (by kernel_rfl) (fun _ _ _ h => h) (Or.inl ⟨by rfl, ?_⟩) (by assumption) ?_
                    rotate_left 1
                    · intro w hSw
                      (try dsimp only at hSw)
                      go_simp
                      (try with_reducible rfl)
                    try simp only [List.getElem_toArray, List.getElem_cons_zero, List.getElem_cons_succ, Act.put, List.setIfInBounds_toArray, List.set_cons_zero, List.set_cons_succ]
                    refine wpAnyH_take (i := 11) (oi := _) (v := ?_) rfl (by kernel_rfl) (by kernel_rfl) (by kernel_rfl) (fun _ _ _ h => h) (Or.inl ⟨by rfl, ?_⟩) (by assumption) ?_
                    rotate_left 1
                    · intro w hSw
                      (try dsimp only at hSw)
                      go_simp
                      (try with_reducible rfl)
                    try simp only [List.getElem_toArray, List.getElem_cons_zero, List.getElem_cons_succ, Act.put, List.setIfInBounds_toArray, List.set_cons_zero, List.set_cons_succ]
                    refine wpAnyH_take (i := 12) (oi := _) (v := ?_) rfl (by kernel_rfl) (by kernel_rfl) (by kernel_rfl) (fun _ _ _ h => h) (Or.inl ⟨by rfl, ?_⟩) (by assumption) ?_
                    rotate_left 1
                    · intro w hSw
                      (try dsimp only at hSw)
                      go_simp
                      (try with_reducible rfl)
                    try simp only [List.getElem_toArray, List.getElem_cons_zero, List.getElem_cons_succ, Act.put, List.setIfInBounds_toArray, List.set_cons_zero, List.set_cons_succ]
                    refine wpAnyH_ready (rs := [18]) (by kernel_rfl) (by simp) ?_
                    refine AllReadyH.cons (o := _) rfl (fun K hK => ?_) AllReadyH.nil
                    go_simp
                    refine (HSAY.out _ _ _ HX.out HN.out.1 HN.out.2).mono ?_
                    rintro e w11 ⟨rfl, h11, s9⟩
                    have HS11 := Lib.hid h11
                    clear h11
                    (try go_wp2_with (fail))
                    refine hK.out _ _ s9 (fun hHeld => ?_)
                    clear hK K
                    try simp only [List.getElem_toArray, List.getElem_cons_zero, List.getElem_cons_succ, Act.put, List.setIfInBounds_toArray, List.set_cons_zero, List.set_cons_succ]
                    refine wpAnyH_done (by kernel_rfl) ?_ _
                    refine NoPanic.normal ?_
                    go_wp2_with (fail)
                    go_roundw
                    case rel => exact ⟨i + 1, by omega, by go_num, Lib.hid (HEND.out _ _ (by rw [Bool.true_and, Bool.true_and, Bool.eq_iff_iff, decide_eq_true_eq, decide_eq_true_eq]; omega) HS11.out)⟩
                    case measure => simp [intOf]; omega
            · obtain rfl : i = p.mrg.length := by omega
              have i1 : decide ((p.mrg.length : Int) < (p.mrg.length : Int)) = false := by rw [decide_eq_false_iff_not]; omega
              rw [List.take_of_length_le (Nat.le_refl _), okM_all] at HP
              obtain ⟨okg, hokg⟩ : ∃ b, (okr && okProgs p.mrg) = b := ⟨_, rfl⟩
              rw [hokg] at HP
              obtain ⟨a0, a1, a2, a3, a4, a5, a6, a7, a8⟩ := HP.out.cells
              clear a0 a1 a2 a3 a4 a5 a6 a8
              cases okg with
              | false =>
                have HO : Hid (out = ([], 80)) := Lib.hid (HNR2.out (by revert hokg; cases okr <;> cases okProgs p.mrg <;> simp))
                clear hokg
                go_wp2_with (fail)
                go_ret2
                exact ⟨by rw [HO.out]; rfl, HP.out.below⟩
              | true =>
                rw [Bool.and_eq_true] at hokg
                have HO : Hid (out = (S4 ++ progsL p.mrg, 0)) := Lib.hid (HTX2.out hokg.1 hokg.2)
                have hsz := HP.out.size
                have HST := Lib.hid (Tryd.Builder_String_any_f (w.heap.size + 1) (w.heap.size + 1) (S4 ++ progsL p.mrg) wr HP.out.bld (by omega))
                clear hokg hsz
                go_wp2_with (fail)
                refine HST.out.mono ?_
                rintro e w5 ⟨rfl, hb5, hB5⟩
                have HB5 := Lib.hid (HP.out.below.trans (hB5.mono (by omega)))
                clear hb5 hB5
                go_wp2_with (fail)
                go_ret2
                exact ⟨by rw [HO.out]; rfl, HB5.out⟩
end Go.Proofs.YtoifnnhbejofjaaDoor
end
