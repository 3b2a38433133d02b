/- hawserlaw13.PlanMakes: what is done at all items, and which choices are refused, is the document's. The condition: the arguments' bulk is what a machine can hold (Upto). -/
import Derived.Test.YtjhjepkmcbjgoaaDoorBPlanBase110
import Derived.Test.YtjhjepkmcbjgoaaDoorBPlanBase25
set_option linter.unusedSimpArgs false
set_option linter.unusedVariables false

section
set_option linter.unusedVariables false
namespace Go.Proofs.YtjhjepkmcbjgoaaDoor
open Go.RowKit Plain

set_option maxRecDepth 100000 in
set_option maxHeartbeats 8000000 in
theorem PlanMakes_any (items : List Itm) (A : Option Addr) (ca : Nat) (A0 : Option Addr) (n0 c0 : Nat) (A1 : Option Addr) (n1 c1 : Nat) (A2 : Option Addr) (c2 : Nat) (p : Prf) (fast : Bool) (ch : List Chc) (B : Option Addr) (cb : Nat) (m : Int) (w : World) (hL : Laid w m) (hR : IsRows w 2 A2 (p.merge.map prgV)) (hlen : p.merge.length ≤ 1048576)
    (hI : IsRows w 2 A (items.map itmV)) (hC : IsRows w 2 B (ch.map chcV)) (hil : items.length ≤ 1048576) (hcl : ch.length ≤ 1048576) (hca : items.length ≤ ca) (hcb : ch.length ≤ cb) (his : ∀ x ∈ items, x.path.length ≤ 1048576) (hcs : ∀ x ∈ ch, x.path.length ≤ 1048576) (hsm : ∀ x ∈ items, OkInt x.what) :
    Calls Tryd.prog 3 #[.slice A items.length ca, profV A0 n0 c0 A1 n1 c1 A2 c2 p fast, .slice B ch.length cb] w (Ret w (.bool true)) := by
  obtain ⟨i0, hi, hz0, hz1, hz2⟩ := info_parts info_choice
  have HI0 := Lib.hid hi
  obtain ⟨j0, hj, hy0, hy1, hy2⟩ := info_parts info_item
  have HJ0 := Lib.hid hj
  have HAW := Lib.hid (fun W (h : Below w.heap.size w W) => awake_any m W (hL.below h))
  have HMK := Lib.hid (fun A5 c5 B5 d5 W (h : Below w.heap.size w W) (h1 : IsRows W 2 A5 (items.map itmV)) (h2 : IsRows W 2 B5 (ch.map chcV)) => Make_any items A5 c5 A0 n0 c0 A1 n1 c1 A2 c2 p fast ch B5 d5 m W (hL.below h) (hR.below h) (by omega) h1 h2 (by omega) (by omega) (fun x hx => by have := his x hx; omega) (fun x hx => by have := hcs x hx; omega))
  have HMR := Lib.hid (fun W (h : Below w.heap.size w W) => Make_ref items A ca A0 n0 c0 A1 n1 c1 A2 c2 p fast ch B cb W (hR.below h) (by omega) (hI.below h) (hC.below h) (by omega) (by omega) (fun x hx => by have := his x hx; omega) hsm)
  have HPA := Lib.hid (fun s W (h : Below w.heap.size w W) => Program_any A0 n0 c0 A1 n1 c1 A2 c2 p fast s m W (hL.below h) (hR.below h) (by omega))
  have HPR := Lib.hid (fun s W (h : Below w.heap.size w W) (hs : s.length ≤ 1048576) => Program_ref A0 n0 c0 A1 n1 c1 A2 c2 p fast s W (by omega) (hR.below h) (by omega))
  have HRI := Lib.hid (fun W (h : Below w.heap.size w W) => hI.below h)
  have HRC := Lib.hid (fun W (h : Below w.heap.size w W) => hC.below h)
  have HRM := Lib.hid (fun W (h : Below w.heap.size w W) => hR.below h)
  have HIS := Lib.hid his
  have HSZ := Lib.hid (show (Tryd.prog.info? 26).map (·.size) = some 7 by kernel_rfl)
  obtain ⟨P, hP⟩ : ∃ P, profV A0 n0 c0 A1 n1 c1 A2 c2 p fast = P := ⟨_, rfl⟩
  have HPE := Lib.hid (show P = .agg #[.slice A0 n0 c0, .slice A1 n1 c1, .slice A2 p.merge.length c2, .int .i64 p.prefer, .int .i64 p.force, .bool p.batch, .bool fast] from hP.symm)
  rw [hP] at HMK HMR HPA HPR ⊢
  obtain ⟨w1, hw1⟩ : ∃ w1, w.alloc (.cells #[.slice A0 n0 c0, .slice A1 n1 c1, .slice A2 p.merge.length c2, .int .i64 p.prefer, .int .i64 p.force, .bool p.batch, .bool fast] 26) = w1 := ⟨_, rfl⟩
  have HW1 := Lib.hid hw1
  have HB1 := Lib.hid (show Below w.heap.size w w1 by rw [← hw1]; exact (Below.refl _ _).alloc (Nat.le_refl _) _)
  have HP1 := Lib.hid (show w1.heap[w.heap.size]? = some (.cells #[.slice A0 n0 c0, .slice A1 n1 c1, .slice A2 p.merge.length c2, .int .i64 p.prefer, .int .i64 p.force, .bool p.batch, .bool fast] 26 (0, 0)) by rw [← hw1]; exact heap_alloc_new _ _)
  have HLT1 := Lib.hid (show w.heap.size < w1.heap.size by rw [← hw1]; simp)
  clear hi hj hL hR hI hC his hcs hP hw1 hsm
  obtain ⟨r1, r2, r3, hr⟩ : ∃ r1 r2 r3, makeP items p ch = (r1, r2, r3) := ⟨_, _, _, rfl⟩
  have HRL := Lib.hid (show r1.length ≤ 1048576 by
    have h1 : (makeP items p ch).1.length ≤ items.length := by
      unfold makeP
      split
      · simp
      · split
        · simp
        · exact outP_length _ _ _
    rw [hr] at h1; simp only at h1; omega)
  rw [hr] at HMK HMR
  rw [HPE.out]
  clear hr
  go_enter Tryd.func3, Tryd.ntmps3
  go_wp2_with (fail)
  rw [HW1.out]
  refine (HAW.out _ HB1.out).mono ?_
  rintro e w2 ⟨rfl, hb2⟩
  have HB2 := Lib.hid hb2
  have p2 := cell_of_row w2 w.heap.size 2 _ _ _ ((hb2.block _ HLT1.out).trans HP1.out)
  clear hb2
  go_wp2_with (fail)
  clear p2
  go_loopw [23] (fun t23 W => ∃ (i : Nat), i ≤ p.merge.length ∧ t23 = .int .i64 i ∧ Hid (Below w1.heap.size w1 W)) (fun t23 _ => p.merge.length - (intOf t23).toNat)
  case atStart => exact ⟨0, by omega, rfl, HB2⟩
  case round =>
    clear HB2
    obtain ⟨i, hi, rfl, HB⟩ := hrel
    have HBW := Lib.hid (HB1.out.trans (HB.out.mono HB1.out.size))
    have i0' : (0 : Int) ≤ i := by omega
    have e1 : IntKind.i64.wrap ((i : Int) + 1) = (i : Int) + 1 := IntWalk.i64_in _ (by omega)
    by_cases hlt : i < p.merge.length
    · have i1 : (i : Int) < p.merge.length := by omega
      obtain ⟨ad, rfl, q0, q1⟩ := prg_at (HRM.out _ HBW.out) hlt
      have HBA := Lib.hid (HB.out.trans ((below_alloc1 wr (Obj.cells #[Value.string ⟨p.merge[i].name.toArray⟩, Value.string ⟨p.merge[i].pat.toArray⟩] 30)).mono HB.out.size))
      generalize p.merge[i].name = nm at *
      generalize p.merge[i].pat = pt at *
      cases h30 : decide ((30 : Int) < (pt.length : Int)) with
      | true =>
        go_wp2_with (fail)
        go_ret
        exact ⟨rfl, HB1.out.trans (HBA.out.mono HB1.out.size)⟩
      | false =>
        go_wp2_with (fail)
        go_roundw
        case rel => exact ⟨i + 1, by omega, by go_num, HBA⟩
        case measure => simp [intOf]; omega
    · have i1 : ¬ (i : Int) < p.merge.length := by omega
      have HRD := Lib.hid (rows_reads chcV_length ((HRC.out wr HBW.out).below (below_alloc1 wr (.cells #[] 42))))
      go_wp2_with (at_builtin; refine wpList_append_slice rfl _ _ 27 rfl wr.heap.size 42 i0 _ 2 24 Tryd.underlying27 HI0.out hz0 hz1 hz2 rfl (by decide) (some ⟨wr.heap.size, 0, none⟩) 0 0 [] rfl (empty_own1 wr 42 2) B ch.length cb (rowsE chcV ch) rfl HRD.out (rowsE_oneCell chcV_oneCell ch) ?c3 ?c4 ?c5 ?_)
      case c3 => unfold maxLen; omega
      case c4 => omega
      intro A5 c5 w5 hown5 hg5
      have hb5 : Below wr.heap.size wr w5 := ((Below.refl _ _).alloc (Nat.le_refl _) _).grown hg5 (by simp) (fun k hk => by
        have hk' : wr.heap.size = k := by injection hk
        omega)
      try simp only [Nat.zero_add, List.nil_append] at hown5
      have HB5 := Lib.hid (HB.out.trans (hb5.mono HB.out.size))
      have HA5 := Lib.hid (own_rows chcV_length hown5 rfl)
      clear hown5 hg5 hb5 HRD i1
      go_wp2_with (fail)
      generalize wr = w4 at *
      have HPB := Lib.hid (show ∀ W, Below w1.heap.size w1 W → W.heap[w.heap.size]? = some (.cells #[.slice A0 n0 c0, .slice A1 n1 c1, .slice A2 p.merge.length c2, .int .i64 p.prefer, .int .i64 p.force, .bool p.batch, .bool fast] 26 (0, 0)) from fun W h => (h.block _ HLT1.out).trans HP1.out)
      have HBD := Lib.hid (show Below w1.heap.size w1 w5.drew from HB5.out.drew)
      refine wp_region_held_drew (S := fun W => W.heap[w.heap.size]? = some (.cells #[.slice A0 n0 c0, .slice A1 n1 c1, .slice A2 p.merge.length c2, .int .i64 p.prefer, .int .i64 p.force, .bool p.batch, .bool fast] 26 (0, 0))) (by kernel_rfl) (HPB.out _ HBD.out) (fun hH => ?_)
      change wpAnyH _ _ _ _ _ (12 + 1) #[false, false, false, false, false, false, false, false, false, false, false, false, false] _ _
      refine wpAnyH_take (i := 1) (v := .slice A items.length ca) rfl (by kernel_rfl) (by kernel_rfl) (by kernel_rfl) (fun _ _ _ h => h) (Or.inl ⟨by rfl, ?_⟩) (by assumption) ?_
      · intro W hW
        go_simp
      try simp only [List.getElem_toArray, List.getElem_cons_zero, List.getElem_cons_succ, Act.put, List.setIfInBounds_toArray, List.set_cons_zero, List.set_cons_succ]
      refine wpAnyH_take (i := 4) (v := .slice A5 ch.length c5) rfl (by kernel_rfl) (by kernel_rfl) (by kernel_rfl) (fun _ _ _ h => h) (Or.inl ⟨by rfl, ?_⟩) (by assumption) ?_
      · intro W hW
        go_simp
      try simp only [List.getElem_toArray, List.getElem_cons_zero, List.getElem_cons_succ, Act.put, List.setIfInBounds_toArray, List.set_cons_zero, List.set_cons_succ]
      refine wpAnyH_take (i := 3) (v := .agg #[.slice A0 n0 c0, .slice A1 n1 c1, .slice A2 p.merge.length c2, .int .i64 p.prefer, .int .i64 p.force, .bool p.batch, .bool fast]) rfl (by kernel_rfl) (by kernel_rfl) (by kernel_rfl) (fun _ _ _ h => h) (Or.inl ⟨by rfl, ?_⟩) (by assumption) ?_
      · intro W hW
        have t0 := cell_of_row W w.heap.size 0 _ _ _ hW
        have t1 := cell_of_row W w.heap.size 1 _ _ _ hW
        have t2 := cell_of_row W w.heap.size 2 _ _ _ hW
        have t3 := cell_of_row W w.heap.size 3 _ _ _ hW
        have t4 := cell_of_row W w.heap.size 4 _ _ _ hW
        have t5 := cell_of_row W w.heap.size 5 _ _ _ hW
        have t6 := cell_of_row W w.heap.size 6 _ _ _ hW
        go_simp
      try simp only [List.getElem_toArray, List.getElem_cons_zero, List.getElem_cons_succ, Act.put, List.setIfInBounds_toArray, List.set_cons_zero, List.set_cons_succ]
      have HX0 := Lib.hid ((Below.refl w5.heap.size w5).drew)
      generalize w5.drew = X0 at *
      refine wpAnyH_ready (rs := [0]) (by kernel_rfl) (by simp) ?_
      refine AllReadyH.cons rfl (fun K hK => ?_) AllReadyH.nil
      go_simp
      have hE := empty_own1 X0 38 2
      have hX1 := HX0.out.alloc HX0.out.size (Obj.cells #[] 38)
      have hz1' : X0.heap.size ≤ (X0.alloc (Obj.cells #[] 38)).heap.size := by simp
      generalize X0.alloc (Obj.cells #[] 38) = X1 at *
      refine hK.out _ _ (HPB.out _ (HB5.out.trans (hX1.mono HB5.out.size))) (fun hH1 => ?_)
      clear hK K hH
      refine wpAnyH_ready (rs := [2]) (by kernel_rfl) (by simp) ?_
      refine AllReadyH.cons rfl (fun K hK => ?_) AllReadyH.nil
      have hRD := rows_reads itmV_length (HRI.out X1 (HB1.out.trans ((HB5.out.trans (hX1.mono HB5.out.size)).mono HB1.out.size)))
      simp only [List.getElem_toArray, List.getElem_cons_succ, List.getElem_cons_zero]
      rw [if_pos (by rfl)]
      refine wp_append_slice _ _ 22 rfl X0.heap.size 38 j0 _ 2 24 Tryd.underlying22 HJ0.out hy0 hy1 hy2 rfl (by decide) (some ⟨X0.heap.size, 0, none⟩) 0 0 [] rfl hE A items.length ca (rowsE itmV items) rfl hRD (rowsE_oneCell itmV_oneCell items) (by unfold maxLen; omega) (by omega) hz1' ?_
      intro A6 c6 X2 hE6 hg
      try simp only [Nat.zero_add, List.nil_append] at hE6 ⊢
      have hX2 := hX1.grown hg hX1.size (fun k hk => Nat.le_trans HX0.out.size (hE.lt k hk).1)
      have HBX := Lib.hid (HB5.out.trans (hX2.mono HB5.out.size))
      have HIX := Lib.hid (own_rows itmV_length hE6 rfl)
      have HCX := Lib.hid (HA5.out.below hX2)
      clear hE6 hg hRD hE
      refine hK.out _ _ (HPB.out _ HBX.out) (fun hH2 => ?_)
      clear hK K hH1 hX1 hX2
      refine wpAnyH_ready (rs := [5]) (by kernel_rfl) (by simp) ?_
      refine AllReadyH.cons rfl (fun K hK => ?_) AllReadyH.nil
      go_simp
      rw [← HPE.out]
      refine (HMK.out A6 c6 A5 c5 X2 (HB1.out.trans (HBX.out.mono HB1.out.size)) HIX.out HCX.out).mono ?_
      intro e w6 hp
      obtain ⟨A7, c7, rfl, hr7, hb7⟩ := make_post hp
      have HB7 := Lib.hid (HBX.out.trans (hb7.mono HBX.out.size))
      have HR7 := Lib.hid hr7
      have HA7 := Lib.hid (HCX.out.below hb7)
      clear hp hr7 hb7
      refine hK.out _ _ (HPB.out _ HB7.out) (fun hH3 => ?_)
      clear hK K hH2
      refine wpAnyH_take (i := 6) (v := .tuple #[.slice A7 r1.length c7, .int .i64 (r2 : Nat), .int .i64 (r3 : Nat)]) rfl (by kernel_rfl) (by kernel_rfl) (by kernel_rfl) (fun _ _ _ h => h) (Or.inl ⟨by rfl, ?_⟩) (by assumption) ?_
      · intro W hW
        go_simp
      try simp only [List.getElem_toArray, List.getElem_cons_zero, List.getElem_cons_succ, Act.put, List.setIfInBounds_toArray, List.set_cons_zero, List.set_cons_succ]
      refine wpAnyH_take (i := 7) (v := .slice A7 r1.length c7) rfl (by kernel_rfl) (by kernel_rfl) (by kernel_rfl) (fun _ _ _ h => h) (Or.inl ⟨by rfl, ?_⟩) (by assumption) ?_
      · intro W hW
        go_simp
      try simp only [List.getElem_toArray, List.getElem_cons_zero, List.getElem_cons_succ, Act.put, List.setIfInBounds_toArray, List.set_cons_zero, List.set_cons_succ]
      refine wpAnyH_take (i := 8) (v := .int .i64 (r2 : Nat)) rfl (by kernel_rfl) (by kernel_rfl) (by kernel_rfl) (fun _ _ _ h => h) (Or.inl ⟨by rfl, ?_⟩) (by assumption) ?_
      · intro W hW
        go_simp
      try simp only [List.getElem_toArray, List.getElem_cons_zero, List.getElem_cons_succ, Act.put, List.setIfInBounds_toArray, List.set_cons_zero, List.set_cons_succ]
      refine wpAnyH_take (i := 9) (v := .int .i64 (r3 : Nat)) rfl (by kernel_rfl) (by kernel_rfl) (by kernel_rfl) (fun _ _ _ h => h) (Or.inl ⟨by rfl, ?_⟩) (by assumption) ?_
      · intro W hW
        go_simp
      try simp only [List.getElem_toArray, List.getElem_cons_zero, List.getElem_cons_succ, Act.put, List.setIfInBounds_toArray, List.set_cons_zero, List.set_cons_succ]
      refine wpAnyH_take (i := 10) (v := .slice A7 r1.length c7) rfl (by kernel_rfl) (by kernel_rfl) (by kernel_rfl) (fun _ _ _ h => h) (Or.inl ⟨by rfl, ?_⟩) (by assumption) ?_
      · intro W hW
        go_simp
      try simp only [List.getElem_toArray, List.getElem_cons_zero, List.getElem_cons_succ, Act.put, List.setIfInBounds_toArray, List.set_cons_zero, List.set_cons_succ]
      refine wpAnyH_take (i := 11) (v := .int .i64 (r2 : Nat)) rfl (by kernel_rfl) (by kernel_rfl) (by kernel_rfl) (fun _ _ _ h => h) (Or.inl ⟨by rfl, ?_⟩) (by assumption) ?_
      · intro W hW
        go_simp
      try simp only [List.getElem_toArray, List.getElem_cons_zero, List.getElem_cons_succ, Act.put, List.setIfInBounds_toArray, List.set_cons_zero, List.set_cons_succ]
      refine wpAnyH_take (i := 12) (v := .int .i64 (r3 : Nat)) rfl (by kernel_rfl) (by kernel_rfl) (by kernel_rfl) (fun _ _ _ h => h) (Or.inl ⟨by rfl, ?_⟩) (by assumption) ?_
      · intro W hW
        go_simp
      try simp only [List.getElem_toArray, List.getElem_cons_zero, List.getElem_cons_succ, Act.put, List.setIfInBounds_toArray, List.set_cons_zero, List.set_cons_succ]
      refine wpAnyH_done (by kernel_rfl) ?_ _
      have HMR2 := Lib.hid (HMR.out w6 (HB1.out.trans (HB7.out.mono HB1.out.size)))
      have t0 := cell_of_row w6 w.heap.size 0 _ _ _ hH3
      have t1 := cell_of_row w6 w.heap.size 1 _ _ _ hH3
      have t2 := cell_of_row w6 w.heap.size 2 _ _ _ hH3
      have t3 := cell_of_row w6 w.heap.size 3 _ _ _ hH3
      have t4 := cell_of_row w6 w.heap.size 4 _ _ _ hH3
      have t5 := cell_of_row w6 w.heap.size 5 _ _ _ hH3
      have t6 := cell_of_row w6 w.heap.size 6 _ _ _ hH3
      clear hH3 HBX HIX HCX HX0
      go_wp2_with (fail)
      clear t0 t1 t2 t3 t4 t5 t6
      rw [← HPE.out]
      refine HMR2.out.mono ?_
      intro e w7 hp
      obtain ⟨A8, c8, rfl, hr8, hb8⟩ := make_post hp
      have HB8 := Lib.hid (HB7.out.trans (hb8.mono HB7.out.size))
      have HSA := Lib.hid (Same_ref r1 A7 A8 r1.length c7 c8 w7 (HR7.out.below hb8) hr8 (by have := HRL.out; omega) rfl)
      have HSB := Lib.hid (fun W (h : Below w7.heap.size w7 W) => Same_ref ch A5 B ch.length c5 cb W ((HA7.out.below hb8).below h) (HRC.out _ (HB1.out.trans ((HB8.out.trans (h.mono HB8.out.size)).mono HB1.out.size))) (by omega) rfl)
      have e2 : ((r2 : Int) != (r2 : Int)) = false := by simp
      have e3 : ((r3 : Int) != (r3 : Int)) = false := by simp
      clear hp hr8 hb8
      rw [HPE.out]
      go_wp2_with (fail)
      refine HSA.out.mono ?_
      rintro e w8 ⟨rfl, hb9⟩
      have HSC := Lib.hid (HSB.out _ hb9)
      have HB9 := Lib.hid (HB8.out.trans (hb9.mono HB8.out.size))
      clear hb9
      go_wp2_with (fail)
      refine HSC.out.mono ?_
      rintro e w9 ⟨rfl, hb10⟩
      have HB10 := Lib.hid (HB9.out.trans (hb10.mono HB9.out.size))
      clear hb10
      go_wp2_with (fail)
      clear HSC HSB HSA HMR2 HB9 HB8 HB7 HR7 HA7 HA5 HB5
      go_loopw [75] (fun t75 W => ∃ (i : Nat), i ≤ items.length ∧ t75 = .int .i64 i ∧ Hid (Below w1.heap.size w1 W)) (fun t75 _ => items.length - (intOf t75).toNat)
      case atStart => exact ⟨0, by omega, rfl, HB10⟩
      case round =>
        clear HB10
        obtain ⟨i, hi, rfl, HB⟩ := hrel
        have HBW := Lib.hid (HB1.out.trans (HB.out.mono HB1.out.size))
        have i0' : (0 : Int) ≤ i := by omega
        have e1 : IntKind.i64.wrap ((i : Int) + 1) = (i : Int) + 1 := IntWalk.i64_in _ (by omega)
        by_cases hlt : i < items.length
        · have i1 : (i : Int) < items.length := by omega
          obtain ⟨ad, rfl, q0, q1⟩ := itm_at (HRI.out _ HBW.out) hlt
          have hpl := HIS.out _ (List.getElem_mem hlt)
          generalize items[i].path = path at *
          generalize items[i].what = what at *
          obtain ⟨wb, hwb⟩ : ∃ wb, wr.alloc (Obj.cells #[Value.string ⟨path.toArray⟩, Value.int .i64 what] 38) = wb := ⟨_, rfl⟩
          have HWB := Lib.hid hwb
          have HBA := Lib.hid (show Below w1.heap.size w1 wb by rw [← hwb]; exact HB.out.trans ((below_alloc1 wr _).mono HB.out.size))
          have HIP := Lib.hid (show wb.cell? ⟨wr.heap.size, 0, none⟩ = some (.string ⟨path.toArray⟩) by rw [← hwb]; simp [go_sem])
          have HPF := Lib.hid (HPB.out wb HBA.out)
          have HBZ := Lib.hid (HB1.out.trans (HBA.out.mono HB1.out.size))
          clear hwb
          go_wp2_with (fail)
          rw [HWB.out]
          refine wp_region_below (by kernel_rfl) (by kernel_rfl) ?_
          repeat first
            | (go_big_quiet_want; refine quiet_load_row 26 _ rfl _ rfl _ _ _ _ HPF.out Tryd.underlying26 rfl HSZ.out ?_; simp only [Act.put, List.setIfInBounds_toArray, List.set_cons_succ, List.set_cons_zero]; go_big_quiet_on)
            | (go_big_quiet_want; refine quiet_load_cell 9 _ rfl _ rfl _ _ HIP.out Tryd.underlying9 rfl ?_; simp only [Act.put, List.setIfInBounds_toArray, List.set_cons_succ, List.set_cons_zero]; go_big_quiet_on)
            | go_big_quiet_step ((intro hW; first | (go_at_call 12; rw [← HPE.out]; exact Ret.quiet hW (HPA.out _ _ (HBZ.out.trans (hW.mono HBZ.out.size)))) | (go_at_call 13; rw [← HPE.out]; exact Ret.quiet hW (HPR.out _ _ (HBZ.out.trans (hW.mono HBZ.out.size)) hpl))))
          refine wpQuiet_nil ?_
          intro W2 hW2
          have HBE := Lib.hid (HBA.out.trans (hW2.mono HBA.out.size))
          clear hW2
          go_wp2_with (fail)
          go_roundw
          case rel => exact ⟨i + 1, by omega, by go_num, HBE⟩
          case measure => simp [intOf]; omega
        · have i1 : ¬ (i : Int) < items.length := by omega
          go_wp2_with (fail)
          go_ret
          exact ⟨rfl, HBW.out⟩

theorem sum_memM {α : Type} (l : List α) (f : α → Nat) : ∀ x ∈ l, f x ≤ (l.map f).sum := by
  induction l with
  | nil => intro x hx; cases hx
  | cons y l ih =>
    intro x hx
    simp only [List.map_cons, List.sum_cons]
    rcases List.mem_cons.1 hx with rfl | hx
    · omega
    · have := ih x hx; omega

open Go.ChangeShapes Go.WideShapes Go.ChangeAt in
set_option maxRecDepth 100000 in
/-- What the walk gives, for every argument. -/
theorem PlanMakes_contract (H : Type) (enc : TypeId × Value → H) (W : World) (base : Nat) (args : Array Value) (ds gs : List (DataW H)) (before : List MemPlace)
    (hval : ∀ (j : Nat) t v, Tryd.f3.params[j]? = some t → args[j]? = some v → Value.okWide Tryd.prog W .any base t v)
    (hW : DataW.Whole enc Tryd.prog Tryd.f3.params.toList Rows.planMakesSpec.vars false W args.toList ds gs before) (hL : laidMetH Tryd.prog Rows.planMakesRow.laid W) (hS : W.ShapedOpen Tryd.prog) (hk : Rows.uptoSmall H (ds ++ gs) = true) :
    Calls Tryd.prog 3 args W fun e W' => ∃ v, e = .returned v ∧ Rows.planMakesSpec.post enc Tryd.prog Tryd.f3 false true false false W args v W' := by
  have hW' := hW
  obtain ⟨p, q, hA0, hV, rfl, hfz, hnd⟩ := hW
  have hA : DataW.TrodAll enc Tryd.prog W 0 (fun _ => true) true Tryd.f3.params.toList args.toList ds p := hA0
  rw [Tryd.params3] at hA hval
  obtain ⟨v0, vs0, d0, ds0, p0, q0, hargs, rfl, rfl, h0, r0⟩ := trodAll_cons hA
  obtain ⟨v1, vs1, d1, ds1, p1, q1, rfl, rfl, rfl, h1, r1⟩ := trodAll_cons r0
  obtain ⟨v2, vs2, d2, ds2, p2, q2, rfl, rfl, rfl, h2, r2⟩ := trodAll_cons r1
  obtain ⟨rfl, rfl, rfl⟩ := trodAll_nil r2
  obtain rfl : args = #[v0, v1, v2] := by cases args; simp_all
  obtain ⟨rfl, rfl⟩ := trodVars_none hV
  obtain ⟨A0, c0, x0, rfl, hc0, hm0, ks0, kd0, kw0⟩ := open_items (hval 0 22 v0 rfl rfl) h0
  obtain ⟨pA1, pn1, pc1, qA1, qn1, qc1, rA1, rc1, p1, f1, rfl, hc1, hm1, ks1, kp1, kf1, kw1⟩ := open_prof (hval 1 26 v1 rfl rfl) h1
  obtain ⟨A2, c2, x2, rfl, hc2, hm2, ks2, kd2, kw2⟩ := open_choices (hval 2 27 v2 rfl rfl) h2
  clear hA0
  have hbulk := bulk_bound hk
  simp only [List.cons_append, List.nil_append, List.append_nil, Rows.uptoBulkAll] at hbulk
  obtain ⟨m, hm⟩ := laid_of hL hS
  have hsl := sum_ge x0 (fun o => o.path.length + 1) (by simp)
  have hsc := sum_ge x2 (fun o => o.path.length + 1) (by simp)
  have hsm := sum_ge p1.merge (fun o => o.name.length + o.pat.length + 1) (by simp)
  refine (PlanMakes_any x0 A0 c0 pA1 pn1 pc1 qA1 qn1 qc1 rA1 rc1 p1 f1 x2 A2 c2 m W hm ks1 (by omega) ks0 ks2 (by omega) (by omega) hc0 hc2 (fun x hx => ?_) (fun x hx => ?_) kd0).mono ?_
  · have := sum_memM x0 (fun o => o.path.length + 1) x hx
    omega
  · have := sum_memM x2 (fun o => o.path.length + 1) x hx
    omega
  exact fun e W' ⟨he, hb⟩ => ⟨_, he, law_post rfl hW' rfl (by kernel_rfl) Tryd.underlying4 (by kernel_rfl) laidOut hb⟩

open Go.ChangeShapes Go.WideShapes Go.ChangeAt in
theorem PlanMakes_met (os : Os) : laidMet Tryd.prog Rows.planMakesUptoRow.laid ((laidWorld os).forCall (fun _ _ => 0) ⟨#[], #[.slice none 0 0, .agg #[.slice none 0 0, .slice none 0 0, .slice none 0 0, .int .i64 0, .int .i64 0, .bool false, .bool false], .slice none 0 0], []⟩).memory :=
  laidMet_of_run' 8 (by kernel_rfl) (by kernel_rfl)
open Go.ChangeShapes Go.WideShapes Go.ChangeAt in
theorem PlanMakes_reads (os : Os) {H : Type} (enc : TypeId × Value → H) : ∃ places, DataW.whole enc Tryd.prog ((laidWorld os).forCall (fun _ _ => 0) ⟨#[], #[.slice none 0 0, .agg #[.slice none 0 0, .slice none 0 0, .slice none 0 0, .int .i64 0, .int .i64 0, .bool false, .bool false], .slice none 0 0], []⟩).memory Tryd.f3.params.toList Rows.planMakesSpec.vars false #[.slice none 0 0, .agg #[.slice none 0 0, .slice none 0 0, .slice none 0 0, .int .i64 0, .int .i64 0, .bool false, .bool false], .slice none 0 0].toList 8 = some ([.nil, .agg [.nil, .nil, .nil, .lit (.int .i64 0), .lit (.int .i64 0), .lit (.bool false), .lit (.bool false)], .nil], [], places) :=
  ⟨[], by kernel_rfl⟩

open Go.ChangeShapes Go.WideShapes Go.ChangeAt in
set_option maxRecDepth 100000 in
theorem PlanMakes_lifted (os : Os) (started : os.Started) (H : Type) (enc : TypeId × Value → H) (F : Stop.Interp) :
    ReturnsInHanded {} Tryd.checked os 3 .any ((Rows.OpenSpec.upto Rows.planMakesSpec).preRow enc Tryd.prog Tryd.f3 Rows.planMakesUptoRow.domain false Rows.planMakesUptoRow.laid) (((Rows.OpenSpec.upto Rows.planMakesSpec).at F).post enc Tryd.prog Tryd.f3 false true false false) := by
  obtain ⟨places, hx⟩ := PlanMakes_reads os enc
  refine returnsInHanded_of_row (C := Tryd.checked) (s := Rows.OpenSpec.upto Rows.planMakesSpec) own started (by kernel_rfl) Tryd.func3
    (witness_row_at (enc := enc) (C := Tryd.checked) false (laidWorld os) #[.slice none 0 0, .agg #[.slice none 0 0, .slice none 0 0, .slice none 0 0, .int .i64 0, .int .i64 0, .bool false, .bool false], .slice none 0 0] rfl (by kernel_rfl) (by kernel_rfl) (by kernel_rfl)
      (OpenSpec.preRow_of_cond 8 hx (by kernel_rfl) (fun k hk => by cases hk; kernel_rfl) (by kernel_rfl) (PlanMakes_met os))) ?_
  intro W base args ds gs before hval hW _ hcond _ hL hS _
  exact PlanMakes_contract H enc W base args ds gs before hval hW hL hS (hcond _ rfl)

theorem PlanMakes_said : Rows.PlanMakesUptoSaid :=
  OpenClaim.holds_of_cond 3 Tryd.f3 rfl rfl rfl rfl rfl rfl rfl ⟨rfl, rfl, rfl, rfl, rfl⟩ rfl rfl rfl rfl rfl (by kernel_rfl) Tryd.func3 (by kernel_rfl)
    (of_decide_eq_true (by kernel_rfl)) (by unfold Func.isWrapper; first | (rw [if_pos (by decide +kernel)]; kernel_rfl) | (rw [if_neg (by decide +kernel)]; exact ⟨rfl, rfl⟩))
    (fun os started H enc _ F => by rw [OpenClaim.pre_eq_preRow]; exact PlanMakes_lifted os started H enc F)

theorem PlanMakes_holds : Rows.PlanMakesUptoCardSaid :=
  Claim7.holds_tied_plain_at .later [] _ _ _ _ PlanMakes_said (fun _ h => by cases h) (by kernel_rfl) (fun _ h => by cases h) planMakesUpto_row_tie rfl ⟨rfl, rfl⟩ (by kernel_rfl) rfl
    (card_plain (f0 := 3) (fn0 := Tryd.f3) (by kernel_rfl) Tryd.func3 (by kernel_rfl) (by kernel_rfl)) (by kernel_rfl)
end Go.Proofs.YtjhjepkmcbjgoaaDoor
end
