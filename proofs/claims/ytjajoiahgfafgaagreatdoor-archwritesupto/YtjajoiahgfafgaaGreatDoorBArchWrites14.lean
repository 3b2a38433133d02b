/- hawserlaw09.ArchWrites: an archive's bytes are the document's, and give the archive back. The condition: the arguments' bulk (Upto). -/
import Derived.Test.YtjajoiahgfafgaaGreatDoorShelf
import Derived.Test.YtjajoiahgfafgaaGreatDoorBCodeBaseC1
import Derived.Shelf.Vars
import Derived.Test.YtjajoiahgfafgaaGreatDoorBArchWrites1
import Derived.Test.YtjajoiahgfafgaaGreatDoorBArchWrites2
import Derived.Test.YtjajoiahgfafgaaGreatDoorCards
import Derived.LaidMore
import Derived.Test.YtjajoiahgfafgaaGreatDoorBArchWrites13
import Derived.Test.YtjajoiahgfafgaaGreatDoorBArchWrites11
import Derived.Test.YtjajoiahgfafgaaGreatDoorBArchWrites4
set_option linter.unusedSimpArgs false
set_option linter.unusedVariables false

/- A library's variable holds some int. -/
section
namespace Go.Proofs.YtjajoiahgfafgaaGreatDoor
open Go.RowKit
theorem cell_maxLen {W : World} (hS : W.ShapedOpen Tryz.prog) : ∃ m, W.cell? ⟨0, 0, none⟩ = some (.int .i64 m) :=
  cell_of_shapedOpen_int (zero := #[.int .i64 0]) (t := 3) hS (of_decide_eq_true (by kernel_rfl)) (by kernel_rfl) rfl (by kernel_rfl) (by kernel_rfl) Tryz.underlying3
end Go.Proofs.YtjajoiahgfafgaaGreatDoor
end

/- The listed tables, as a call may lean on them. -/
section
namespace Go.Proofs.YtjajoiahgfafgaaGreatDoor
open Go.RowKit

theorem extra196 : Go.Proofs.U8Extra Tryz.prog lays196_ren := {
  n3 := by kernel_rfl
  n4 := by kernel_rfl
  y3 := by kernel_rfl
  y4 := by kernel_rfl
  c5 := by kernel_rfl
  c119 := by kernel_rfl
  c138 := by kernel_rfl }
theorem first_same : Lib.firstData = Rows.laid_unicode_utf8_first := by kernel_rfl
theorem accept_same : Lib.acceptData = Rows.laid_unicode_utf8_acceptRanges := by kernel_rfl
theorem tabs_of_laid {W : World} (h : laidMetH Tryz.prog [("unicode/utf8.acceptRanges", Rows.laid_unicode_utf8_acceptRanges), ("unicode/utf8.first", Rows.laid_unicode_utf8_first)] W) : Tabs W := by
  rw [MakeChecks.laidMetH_plain _ _ _ (by kernel_rfl)] at h
  obtain ⟨ps, hps, _⟩ := h
  exact Go.Proofs.utf8Tabs_of_readsT (Go.Proofs.U8Types.of196 lays196) extra196 (by rw [first_same]; exact Lib.LaidVars_reads hps _ _ (by simp)) (by rw [accept_same]; exact Lib.LaidVars_reads hps _ _ (by simp))
theorem laid_of {W : World} (hL : laidMetH Tryz.prog [("unicode/utf8.acceptRanges", Rows.laid_unicode_utf8_acceptRanges), ("unicode/utf8.first", Rows.laid_unicode_utf8_first)] W) (hS : W.ShapedOpen Tryz.prog) : ∃ m, Laid W m := by
  obtain ⟨m, hm⟩ := cell_maxLen hS
  exact ⟨m, tabs_of_laid hL, hm⟩
end Go.Proofs.YtjajoiahgfafgaaGreatDoor
end

section
set_option linter.unusedVariables false
namespace Go.Proofs.YtjajoiahgfafgaaGreatDoor
open Go.RowKit Plain

theorem match_selfA (a : Arc) : (checkA a && checkA a && (a.pair == a.pair) && (a.serial == a.serial) && (a.tree == a.tree)) = checkA a := by simp
theorem arc_selfA (a : Arc) : ((a.pair == a.pair) && (a.serial == a.serial) && (a.tree == a.tree) && (a.stamps == a.stamps)) = true := by simp
theorem sum_memA {α : Type} (l : List α) (f : α → Nat) : ∀ x ∈ l, f x ≤ (l.map f).sum := by
  induction l with
  | nil => intro x hx; cases hx
  | cons y l ih =>
    intro x hx
    simp only [List.map_cons, List.sum_cons]
    rcases List.mem_cons.1 hx with rfl | hx
    · omega
    · have := ih x hx; omega

set_option maxHeartbeats 8000000 in
set_option maxRecDepth 100000 in
theorem ArchWrites_any (a b : Arc) (A : Option Addr) (c : Nat) (B : Option Addr) (d : Nat) (A' : Option Addr) (c' : Nat) (B' : Option Addr) (d' : Nat) (m : Int) (w : World) (hL : Laid w m) (hA : ArAt a A c B d w) (hB : ArAt b A' c' B' d' w) (sa : Small a) (sb : Small b) (hpa : Pth a) (hpb : Pth b) :
    Calls Tryz.prog 4 #[.agg (arV a A c B d).toArray, .agg (arV b A' c' B' d').toArray] w (Ret w (.bool true)) := by
  have HSZ := Lib.hid size_arc
  have HAW := Lib.hid (fun W (h : Below w.heap.size w W) => aawake_any m W (hL.below h))
  have HM1 := Lib.hid (fun W (h : Below w.heap.size w W) => amatch_any a b A c B d A' c' B' d' m W (hL.below h) (hA.below h) (hB.below h))
  have HM2 := Lib.hid (fun W (h : Below w.heap.size w W) => rmatch_any a b A c B d A' c' B' d' W (hA.below h) (hB.below h) hpa hpb)
  have HM3 := Lib.hid (fun W (h : Below w.heap.size w W) => amatch_any a a A c B d A c B d m W (hL.below h) (hA.below h) (hA.below h))
  rw [match_selfA] at HM3
  have HC1 := Lib.hid (fun W (h : Below w.heap.size w W) => acheck_any a A c B d m W (hL.below h) (hA.below h))
  have HC2 := Lib.hid (fun W (h : Below w.heap.size w W) => rarchk_any a A c B d W (hA.below h) hpa)
  have HE1 := Lib.hid (fun W (h : Below w.heap.size w W) => encode_any a A c B d m W (hL.below h) (hA.below h) sa)
  have HE2 := Lib.hid (fun W (h : Below w.heap.size w W) => rencode_any a A c B d W (hA.below h) sa hpa)
  have HLA := Lib.hid (fun W (h : Below w.heap.size w W) => hL.below h)
  have HAA := Lib.hid (fun W (h : Below w.heap.size w W) => hA.below h)
  have HDB := Lib.hid (fun h => decode_back (a := a) h sa)
  have HRL := Lib.hid (fun h => payA_length (a := a) h)
  obtain ⟨bm, hbm⟩ : ∃ bm, (checkA a && checkA b && (a.pair == b.pair) && (a.serial == b.serial) && (a.tree == b.tree)) = bm := ⟨_, rfl⟩
  rw [hbm] at HM1 HM2
  have HBM : Hid (checkA a = false → bm = false) := Lib.hid (fun h => by rw [← hbm, h]; rfl)
  clear hbm
  obtain ⟨w0, hw0⟩ : ∃ w0, (w.alloc (.cells (arV a A c B d).toArray 26)).alloc (.cells (arV b A' c' B' d').toArray 26) = w0 := ⟨_, rfl⟩
  have HB0 := Lib.hid (show Below w.heap.size w w0 by rw [← hw0]; exact ((Below.refl w.heap.size w).alloc (Nat.le_refl _) _).alloc (by simp) _)
  have HS0 := Lib.hid (show w0.heap.size = w.heap.size + 2 by rw [← hw0]; simp)
  have HRA := Lib.hid (show w0.heap[w.heap.size]? = some (.cells (arV a A c B d).toArray 26 (0, 0)) by rw [← hw0, Below.heap_alloc _ _ _ (by simp)]; exact heap_alloc_new _ _)
  have HRB := Lib.hid (show w0.heap[w.heap.size + 1]? = some (.cells (arV b A' c' B' d').toArray 26 (0, 0)) by have := heap_alloc_new (w.alloc (.cells (arV a A c B d).toArray 26)) (.cells (arV b A' c' B' d').toArray 26); rw [← hw0]; simpa using this)
  have HW0 := Lib.hid hw0
  have HUP := Lib.hid (show ∀ W, Below w0.heap.size w0 W → Below w.heap.size w W from fun W h => HB0.out.trans (h.mono HB0.out.size))
  clear hA hB hw0 hL sa sb hpa hpb
  have HBX := Lib.hid (show ∀ W, Below w0.heap.size w0 W → W.heap[w.heap.size]? = some (.cells (arV a A c B d).toArray 26 (0, 0)) ∧ W.heap[w.heap.size + 1]? = some (.cells (arV b A' c' B' d').toArray 26 (0, 0)) from fun W h => ⟨(h.block _ (lt_of_heap HRA.out)).trans HRA.out, (h.block _ (lt_of_heap HRB.out)).trans HRB.out⟩)
  have HBC := Lib.hid (Below.refl w0.heap.size w0)
  clear HRA HRB HB0 HS0
  cases hck : checkA a with
  | false =>
    have HB : Hid (bm = false) := Lib.hid (HBM.out hck)
    rw [HB.out] at HM1 HM2
    have HEN := Lib.hid (show encodeA a = ([], 90) by unfold encodeA; rw [hck]; rfl)
    rw [HEN.out] at HE1 HE2
    rw [hck] at HM3 HC1 HC2
    change Hid (∀ W, Below w.heap.size w W → Calls _ _ _ W (Ret W (.int .i64 90))) at HC1 HC2
    clear HB HBM HDB HRL HEN hck HLA HAA
    simp only at HE1 HE2
    obtain ⟨r1, hr1⟩ : ∃ r : List UInt8, [] = r := ⟨_, rfl⟩
    rw [hr1] at HE1 HE2
    clear hr1
    obtain ⟨pair, serial, tree, stamps⟩ := a
    obtain ⟨pair', serial', tree', stamps'⟩ := b
    unfold arV at *
    simp only at HM1 HM2 HM3 HC1 HC2 HE1 HE2 HW0 HBX ⊢
    generalize tree.length = tn at *
    generalize stamps.length = sn at *
    generalize tree'.length = tn' at *
    generalize stamps'.length = sn' at *
    have hrr : (r1 != r1) = false := by simp
    go_enter Tryz.func4, Tryz.ntmps4
    go_upto_region 1 with (fail)
    rw [HW0.out]
    go_wp2_with (fail)
    refine (HAW.out _ (HUP.out _ HBC.out)).mono ?_
    rintro e w1 ⟨rfl, hw⟩
    have HB1 := Lib.hid (HBC.out.trans (hw.mono HBC.out.size))
    clear hw
    have HRA := Lib.hid (HBX.out w1 HB1.out).1
    have p0 := cell_of_row w1 _ 0 _ _ _ HRA.out
    have p1 := cell_of_row w1 _ 1 _ _ _ HRA.out
    have p2 := cell_of_row w1 _ 2 _ _ _ HRA.out
    have p3 := cell_of_row w1 _ 3 _ _ _ HRA.out
    go_wp2_with (fail)
    clear p0 p1 p2 p3 HRA
    refine (HE1.out _ (HUP.out _ HB1.out)).mono ?_
    rintro e w2 ⟨rfl, hw⟩
    have HB2 := Lib.hid (HB1.out.trans (hw.mono HB1.out.size))
    clear hw
    have HRA := Lib.hid (HBX.out w2 HB2.out).1
    have p0 := cell_of_row w2 _ 0 _ _ _ HRA.out
    have p1 := cell_of_row w2 _ 1 _ _ _ HRA.out
    have p2 := cell_of_row w2 _ 2 _ _ _ HRA.out
    have p3 := cell_of_row w2 _ 3 _ _ _ HRA.out
    go_wp2_with (fail)
    clear p0 p1 p2 p3 HRA
    refine (HE2.out _ (HUP.out _ HB2.out)).mono ?_
    rintro e w3 ⟨rfl, hw⟩
    have HB3 := Lib.hid (HB2.out.trans (hw.mono HB2.out.size))
    clear hw
    have HRA := Lib.hid (HBX.out w3 HB3.out).1
    have HRB := Lib.hid (HBX.out w3 HB3.out).2
    clear HE1 HE2 HAW
    go_upto_region 5 with (fail)
    refine wp_region_below (by kernel_rfl) (by kernel_rfl) ?_
    iterate 9 (go_big_quiet_step (fail))
    (go_big_quiet_want; refine quiet_load_row 26 _ rfl _ rfl _ _ _ _ HRA.out Tryz.underlying26 rfl HSZ.out ?_; simp only [Act.put, List.setIfInBounds_toArray, List.set_cons_succ, List.set_cons_zero]; go_big_quiet_on)
    go_big_quiet_step ((intro hW; go_at_call 13; exact Ret.quiet hW (HC1.out _ (HUP.out _ (HB3.out.trans (hW.mono HB3.out.size))))))
    (go_big_quiet_want; refine quiet_load_row 26 _ rfl _ rfl _ _ _ _ HRA.out Tryz.underlying26 rfl HSZ.out ?_; simp only [Act.put, List.setIfInBounds_toArray, List.set_cons_succ, List.set_cons_zero]; go_big_quiet_on)
    go_big_quiet_step ((intro hW; go_at_call 14; exact Ret.quiet hW (HC2.out _ (HUP.out _ (HB3.out.trans (hW.mono HB3.out.size))))))
    iterate 3 (go_big_quiet_step (fail))
    (go_big_quiet_want; refine quiet_load_row 26 _ rfl _ rfl _ _ _ _ HRA.out Tryz.underlying26 rfl HSZ.out ?_; simp only [Act.put, List.setIfInBounds_toArray, List.set_cons_succ, List.set_cons_zero]; go_big_quiet_on)
    (go_big_quiet_want; refine quiet_load_row 26 _ rfl _ rfl _ _ _ _ HRB.out Tryz.underlying26 rfl HSZ.out ?_; simp only [Act.put, List.setIfInBounds_toArray, List.set_cons_succ, List.set_cons_zero]; go_big_quiet_on)
    go_big_quiet_step ((intro hW; go_at_call 15; exact Ret.quiet hW (HM1.out _ (HUP.out _ (HB3.out.trans (hW.mono HB3.out.size))))))
    (go_big_quiet_want; refine quiet_load_row 26 _ rfl _ rfl _ _ _ _ HRA.out Tryz.underlying26 rfl HSZ.out ?_; simp only [Act.put, List.setIfInBounds_toArray, List.set_cons_succ, List.set_cons_zero]; go_big_quiet_on)
    (go_big_quiet_want; refine quiet_load_row 26 _ rfl _ rfl _ _ _ _ HRB.out Tryz.underlying26 rfl HSZ.out ?_; simp only [Act.put, List.setIfInBounds_toArray, List.set_cons_succ, List.set_cons_zero]; go_big_quiet_on)
    go_big_quiet_step ((intro hW; go_at_call 16; exact Ret.quiet hW (HM2.out _ (HUP.out _ (HB3.out.trans (hW.mono HB3.out.size))))))
    iterate 3 (go_big_quiet_step (fail))
    (go_big_quiet_want; refine quiet_load_row 26 _ rfl _ rfl _ _ _ _ HRA.out Tryz.underlying26 rfl HSZ.out ?_; simp only [Act.put, List.setIfInBounds_toArray, List.set_cons_succ, List.set_cons_zero]; go_big_quiet_on)
    (go_big_quiet_want; refine quiet_load_row 26 _ rfl _ rfl _ _ _ _ HRA.out Tryz.underlying26 rfl HSZ.out ?_; simp only [Act.put, List.setIfInBounds_toArray, List.set_cons_succ, List.set_cons_zero]; go_big_quiet_on)
    go_big_quiet_step ((intro hW; go_at_call 15; exact Ret.quiet hW (HM3.out _ (HUP.out _ (HB3.out.trans (hW.mono HB3.out.size))))))
    (go_big_quiet_want; refine quiet_load_row 26 _ rfl _ rfl _ _ _ _ HRA.out Tryz.underlying26 rfl HSZ.out ?_; simp only [Act.put, List.setIfInBounds_toArray, List.set_cons_succ, List.set_cons_zero]; go_big_quiet_on)
    go_big_quiet_step ((intro hW; go_at_call 14; exact Ret.quiet hW (HC2.out _ (HUP.out _ (HB3.out.trans (hW.mono HB3.out.size))))))
    iterate 3 (go_big_quiet_step (fail))
    refine wpQuiet_nil ?_
    intro w4 hw
    have HB4 := Lib.hid (HB3.out.trans (hw.mono HB3.out.size))
    clear hw HRA HRB
    go_wp2_with (fail)
    go_ret
    exact ⟨rfl, HUP.out _ HB4.out⟩

  | true =>
    cases bm with
    | false =>
      have HEN := Lib.hid (show encodeA a = (record (payA a), 0) by unfold encodeA; rw [hck]; rfl)
      rw [HEN.out] at HE1 HE2
      have HLEN := HRL.out hck
      have HL2 := record_length (payA a)
      have HRLE : Hid ((record (payA a)).length ≤ 9223372036854775807) := Lib.hid (by omega)
      have HDC := Lib.hid (fun W (h : Below w.heap.size w W) => (HDB.out hck ▸ decode_any (record (payA a)) m W (HLA.out W h) HRLE.out : Calls Tryz.prog 8 #[.string ⟨(record (payA a)).toArray⟩] W (ArcOut W (a, 0))))
      have HSAME := Lib.hid (fun A5 c5 B5 d5 W (h1 : Below w.heap.size w W) (h2 : ArAt a A5 c5 B5 d5 W) => arc_selfA a ▸ rarch_any a a A c B d A5 c5 B5 d5 W (HAA.out W h1) h2)
      have HAX : Hid (∀ W : World, ∀ (A : Option Addr) (c : Nat) (B : Option Addr) (d : Nat), ArAt a A c B d W → ∀ W', Below W.heap.size W W' → ArAt a A c B d W') := Lib.hid (fun W A c B d h W' hb => h.below hb)
      rw [hck] at HM3 HC1 HC2
      change Hid (∀ W, Below w.heap.size w W → Calls _ _ _ W (Ret W (.int .i64 0))) at HC1 HC2
      simp only at HE1 HE2
      clear HBM HDB HRL HEN hck HLA HAA HLEN HL2 HRLE
      generalize record (payA a) = r1 at *
      unfold ArcOut at HDC
      generalize hP : ArAt a = PP at *
      clear hP
      obtain ⟨pair, serial, tree, stamps⟩ := a
      obtain ⟨pair', serial', tree', stamps'⟩ := b
      unfold arV at HDC HSAME
      simp only at HDC HSAME
      unfold arV at *
      simp only at HM1 HM2 HM3 HC1 HC2 HE1 HE2 HW0 HBX ⊢
      generalize tree.length = tn at *
      generalize stamps.length = sn at *
      generalize tree'.length = tn' at *
      generalize stamps'.length = sn' at *
      have hrr : (r1 != r1) = false := by simp
      go_enter Tryz.func4, Tryz.ntmps4
      go_upto_region 1 with (fail)
      rw [HW0.out]
      go_wp2_with (fail)
      refine (HAW.out _ (HUP.out _ HBC.out)).mono ?_
      rintro e w1 ⟨rfl, hw⟩
      have HB1 := Lib.hid (HBC.out.trans (hw.mono HBC.out.size))
      clear hw
      have HRA := Lib.hid (HBX.out w1 HB1.out).1
      have p0 := cell_of_row w1 _ 0 _ _ _ HRA.out
      have p1 := cell_of_row w1 _ 1 _ _ _ HRA.out
      have p2 := cell_of_row w1 _ 2 _ _ _ HRA.out
      have p3 := cell_of_row w1 _ 3 _ _ _ HRA.out
      go_wp2_with (fail)
      clear p0 p1 p2 p3 HRA
      refine (HE1.out _ (HUP.out _ HB1.out)).mono ?_
      rintro e w2 ⟨rfl, hw⟩
      have HB2 := Lib.hid (HB1.out.trans (hw.mono HB1.out.size))
      clear hw
      have HRA := Lib.hid (HBX.out w2 HB2.out).1
      have p0 := cell_of_row w2 _ 0 _ _ _ HRA.out
      have p1 := cell_of_row w2 _ 1 _ _ _ HRA.out
      have p2 := cell_of_row w2 _ 2 _ _ _ HRA.out
      have p3 := cell_of_row w2 _ 3 _ _ _ HRA.out
      go_wp2_with (fail)
      clear p0 p1 p2 p3 HRA
      refine (HE2.out _ (HUP.out _ HB2.out)).mono ?_
      rintro e w3 ⟨rfl, hw⟩
      have HB3 := Lib.hid (HB2.out.trans (hw.mono HB2.out.size))
      clear hw
      have HRA := Lib.hid (HBX.out w3 HB3.out).1
      have HRB := Lib.hid (HBX.out w3 HB3.out).2
      clear HE1 HE2 HAW
      go_upto_region 5 with (fail)
      refine wp_region_below (by kernel_rfl) (by kernel_rfl) ?_
      iterate 9 (go_big_quiet_step (fail))
      (go_big_quiet_want; refine quiet_load_row 26 _ rfl _ rfl _ _ _ _ HRA.out Tryz.underlying26 rfl HSZ.out ?_; simp only [Act.put, List.setIfInBounds_toArray, List.set_cons_succ, List.set_cons_zero]; go_big_quiet_on)
      go_big_quiet_step ((intro hW; go_at_call 13; exact Ret.quiet hW (HC1.out _ (HUP.out _ (HB3.out.trans (hW.mono HB3.out.size))))))
      (go_big_quiet_want; refine quiet_load_row 26 _ rfl _ rfl _ _ _ _ HRA.out Tryz.underlying26 rfl HSZ.out ?_; simp only [Act.put, List.setIfInBounds_toArray, List.set_cons_succ, List.set_cons_zero]; go_big_quiet_on)
      go_big_quiet_step ((intro hW; go_at_call 14; exact Ret.quiet hW (HC2.out _ (HUP.out _ (HB3.out.trans (hW.mono HB3.out.size))))))
      iterate 3 (go_big_quiet_step (fail))
      (go_big_quiet_want; refine quiet_load_row 26 _ rfl _ rfl _ _ _ _ HRA.out Tryz.underlying26 rfl HSZ.out ?_; simp only [Act.put, List.setIfInBounds_toArray, List.set_cons_succ, List.set_cons_zero]; go_big_quiet_on)
      (go_big_quiet_want; refine quiet_load_row 26 _ rfl _ rfl _ _ _ _ HRB.out Tryz.underlying26 rfl HSZ.out ?_; simp only [Act.put, List.setIfInBounds_toArray, List.set_cons_succ, List.set_cons_zero]; go_big_quiet_on)
      go_big_quiet_step ((intro hW; go_at_call 15; exact Ret.quiet hW (HM1.out _ (HUP.out _ (HB3.out.trans (hW.mono HB3.out.size))))))
      (go_big_quiet_want; refine quiet_load_row 26 _ rfl _ rfl _ _ _ _ HRA.out Tryz.underlying26 rfl HSZ.out ?_; simp only [Act.put, List.setIfInBounds_toArray, List.set_cons_succ, List.set_cons_zero]; go_big_quiet_on)
      (go_big_quiet_want; refine quiet_load_row 26 _ rfl _ rfl _ _ _ _ HRB.out Tryz.underlying26 rfl HSZ.out ?_; simp only [Act.put, List.setIfInBounds_toArray, List.set_cons_succ, List.set_cons_zero]; go_big_quiet_on)
      go_big_quiet_step ((intro hW; go_at_call 16; exact Ret.quiet hW (HM2.out _ (HUP.out _ (HB3.out.trans (hW.mono HB3.out.size))))))
      iterate 3 (go_big_quiet_step (fail))
      (go_big_quiet_want; refine quiet_load_row 26 _ rfl _ rfl _ _ _ _ HRA.out Tryz.underlying26 rfl HSZ.out ?_; simp only [Act.put, List.setIfInBounds_toArray, List.set_cons_succ, List.set_cons_zero]; go_big_quiet_on)
      (go_big_quiet_want; refine quiet_load_row 26 _ rfl _ rfl _ _ _ _ HRA.out Tryz.underlying26 rfl HSZ.out ?_; simp only [Act.put, List.setIfInBounds_toArray, List.set_cons_succ, List.set_cons_zero]; go_big_quiet_on)
      go_big_quiet_step ((intro hW; go_at_call 15; exact Ret.quiet hW (HM3.out _ (HUP.out _ (HB3.out.trans (hW.mono HB3.out.size))))))
      (go_big_quiet_want; refine quiet_load_row 26 _ rfl _ rfl _ _ _ _ HRA.out Tryz.underlying26 rfl HSZ.out ?_; simp only [Act.put, List.setIfInBounds_toArray, List.set_cons_succ, List.set_cons_zero]; go_big_quiet_on)
      go_big_quiet_step ((intro hW; go_at_call 14; exact Ret.quiet hW (HC2.out _ (HUP.out _ (HB3.out.trans (hW.mono HB3.out.size))))))
      iterate 3 (go_big_quiet_step (fail))
      refine wpQuiet_nil ?_
      intro w4 hw
      have HB4 := Lib.hid (HB3.out.trans (hw.mono HB3.out.size))
      clear hw HRA HRB
      go_wp2_with (fail)
      refine (HDC.out _ (HUP.out _ HB4.out)).mono ?_
      rintro e w5 ⟨A5, c5, B5, d5, rfl, hat, hw⟩
      have HB5 := Lib.hid (HB4.out.trans (hw.mono HB4.out.size))
      clear hw
      obtain ⟨w6, hw6⟩ : ∃ w6, w5.alloc (.cells #[.string ⟨pair.toArray⟩, .int .i64 serial, .slice A5 tn c5, .slice B5 sn d5] 26) = w6 := ⟨_, rfl⟩
      have HW6 := Lib.hid hw6
      have hb6 := (show Below w5.heap.size w5 w6 by rw [← hw6]; exact (Below.refl _ _).alloc (Nat.le_refl _) _)
      have HB6 := Lib.hid (HB5.out.trans (hb6.mono HB5.out.size))
      have HRB := Lib.hid (show w6.heap[w5.heap.size]? = some (.cells #[.string ⟨pair.toArray⟩, .int .i64 serial, .slice A5 tn c5, .slice B5 sn d5] 26 (0, 0)) by rw [← hw6]; exact heap_alloc_new _ _)
      have HRA := Lib.hid (HBX.out w6 HB6.out).1
      have HSM := Lib.hid (HSAME.out _ _ _ _ w6 (HUP.out _ HB6.out) (HAX.out _ _ _ _ _ hat _ hb6))
      clear hw6 hb6 hat
      have p0 := cell_of_row w6 _ 0 _ _ _ HRA.out
      have p1 := cell_of_row w6 _ 1 _ _ _ HRA.out
      have p2 := cell_of_row w6 _ 2 _ _ _ HRA.out
      have p3 := cell_of_row w6 _ 3 _ _ _ HRA.out
      have q0 := cell_of_row w6 _ 0 _ _ _ HRB.out
      have q1 := cell_of_row w6 _ 1 _ _ _ HRB.out
      have q2 := cell_of_row w6 _ 2 _ _ _ HRB.out
      have q3 := cell_of_row w6 _ 3 _ _ _ HRB.out
      go_upto_region 10 with (fail)
      rw [HW6.out]
      go_wp2_with (fail)
      refine HSM.out.mono ?_
      rintro e w7 ⟨rfl, hw⟩
      have HB7 := Lib.hid (HB6.out.trans (hw.mono HB6.out.size))
      clear hw
      go_wp2_with (fail)
      go_ret
      exact ⟨rfl, HUP.out _ HB7.out⟩

    | true =>
      have HEN := Lib.hid (show encodeA a = (record (payA a), 0) by unfold encodeA; rw [hck]; rfl)
      rw [HEN.out] at HE1 HE2
      have HLEN := HRL.out hck
      have HL2 := record_length (payA a)
      have HRLE : Hid ((record (payA a)).length ≤ 9223372036854775807) := Lib.hid (by omega)
      have HDC := Lib.hid (fun W (h : Below w.heap.size w W) => (HDB.out hck ▸ decode_any (record (payA a)) m W (HLA.out W h) HRLE.out : Calls Tryz.prog 8 #[.string ⟨(record (payA a)).toArray⟩] W (ArcOut W (a, 0))))
      have HSAME := Lib.hid (fun A5 c5 B5 d5 W (h1 : Below w.heap.size w W) (h2 : ArAt a A5 c5 B5 d5 W) => arc_selfA a ▸ rarch_any a a A c B d A5 c5 B5 d5 W (HAA.out W h1) h2)
      have HAX : Hid (∀ W : World, ∀ (A : Option Addr) (c : Nat) (B : Option Addr) (d : Nat), ArAt a A c B d W → ∀ W', Below W.heap.size W W' → ArAt a A c B d W') := Lib.hid (fun W A c B d h W' hb => h.below hb)
      rw [hck] at HM3 HC1 HC2
      change Hid (∀ W, Below w.heap.size w W → Calls _ _ _ W (Ret W (.int .i64 0))) at HC1 HC2
      simp only at HE1 HE2
      clear HBM HDB HRL HEN hck HLA HAA HLEN HL2 HRLE
      generalize record (payA a) = r1 at *
      unfold ArcOut at HDC
      generalize hP : ArAt a = PP at *
      clear hP
      obtain ⟨pair, serial, tree, stamps⟩ := a
      obtain ⟨pair', serial', tree', stamps'⟩ := b
      unfold arV at HDC HSAME
      simp only at HDC HSAME
      unfold arV at *
      simp only at HM1 HM2 HM3 HC1 HC2 HE1 HE2 HW0 HBX ⊢
      generalize tree.length = tn at *
      generalize stamps.length = sn at *
      generalize tree'.length = tn' at *
      generalize stamps'.length = sn' at *
      have hrr : (r1 != r1) = false := by simp
      go_enter Tryz.func4, Tryz.ntmps4
      go_upto_region 1 with (fail)
      rw [HW0.out]
      go_wp2_with (fail)
      refine (HAW.out _ (HUP.out _ HBC.out)).mono ?_
      rintro e w1 ⟨rfl, hw⟩
      have HB1 := Lib.hid (HBC.out.trans (hw.mono HBC.out.size))
      clear hw
      have HRA := Lib.hid (HBX.out w1 HB1.out).1
      have p0 := cell_of_row w1 _ 0 _ _ _ HRA.out
      have p1 := cell_of_row w1 _ 1 _ _ _ HRA.out
      have p2 := cell_of_row w1 _ 2 _ _ _ HRA.out
      have p3 := cell_of_row w1 _ 3 _ _ _ HRA.out
      go_wp2_with (fail)
      clear p0 p1 p2 p3 HRA
      refine (HE1.out _ (HUP.out _ HB1.out)).mono ?_
      rintro e w2 ⟨rfl, hw⟩
      have HB2 := Lib.hid (HB1.out.trans (hw.mono HB1.out.size))
      clear hw
      have HRA := Lib.hid (HBX.out w2 HB2.out).1
      have p0 := cell_of_row w2 _ 0 _ _ _ HRA.out
      have p1 := cell_of_row w2 _ 1 _ _ _ HRA.out
      have p2 := cell_of_row w2 _ 2 _ _ _ HRA.out
      have p3 := cell_of_row w2 _ 3 _ _ _ HRA.out
      go_wp2_with (fail)
      clear p0 p1 p2 p3 HRA
      refine (HE2.out _ (HUP.out _ HB2.out)).mono ?_
      rintro e w3 ⟨rfl, hw⟩
      have HB3 := Lib.hid (HB2.out.trans (hw.mono HB2.out.size))
      clear hw
      have HRA := Lib.hid (HBX.out w3 HB3.out).1
      have HRB := Lib.hid (HBX.out w3 HB3.out).2
      clear HE1 HE2 HAW
      go_upto_region 5 with (fail)
      refine wp_region_below (by kernel_rfl) (by kernel_rfl) ?_
      iterate 9 (go_big_quiet_step (fail))
      (go_big_quiet_want; refine quiet_load_row 26 _ rfl _ rfl _ _ _ _ HRA.out Tryz.underlying26 rfl HSZ.out ?_; simp only [Act.put, List.setIfInBounds_toArray, List.set_cons_succ, List.set_cons_zero]; go_big_quiet_on)
      go_big_quiet_step ((intro hW; go_at_call 13; exact Ret.quiet hW (HC1.out _ (HUP.out _ (HB3.out.trans (hW.mono HB3.out.size))))))
      (go_big_quiet_want; refine quiet_load_row 26 _ rfl _ rfl _ _ _ _ HRA.out Tryz.underlying26 rfl HSZ.out ?_; simp only [Act.put, List.setIfInBounds_toArray, List.set_cons_succ, List.set_cons_zero]; go_big_quiet_on)
      go_big_quiet_step ((intro hW; go_at_call 14; exact Ret.quiet hW (HC2.out _ (HUP.out _ (HB3.out.trans (hW.mono HB3.out.size))))))
      iterate 3 (go_big_quiet_step (fail))
      (go_big_quiet_want; refine quiet_load_row 26 _ rfl _ rfl _ _ _ _ HRA.out Tryz.underlying26 rfl HSZ.out ?_; simp only [Act.put, List.setIfInBounds_toArray, List.set_cons_succ, List.set_cons_zero]; go_big_quiet_on)
      (go_big_quiet_want; refine quiet_load_row 26 _ rfl _ rfl _ _ _ _ HRB.out Tryz.underlying26 rfl HSZ.out ?_; simp only [Act.put, List.setIfInBounds_toArray, List.set_cons_succ, List.set_cons_zero]; go_big_quiet_on)
      go_big_quiet_step ((intro hW; go_at_call 15; exact Ret.quiet hW (HM1.out _ (HUP.out _ (HB3.out.trans (hW.mono HB3.out.size))))))
      (go_big_quiet_want; refine quiet_load_row 26 _ rfl _ rfl _ _ _ _ HRA.out Tryz.underlying26 rfl HSZ.out ?_; simp only [Act.put, List.setIfInBounds_toArray, List.set_cons_succ, List.set_cons_zero]; go_big_quiet_on)
      (go_big_quiet_want; refine quiet_load_row 26 _ rfl _ rfl _ _ _ _ HRB.out Tryz.underlying26 rfl HSZ.out ?_; simp only [Act.put, List.setIfInBounds_toArray, List.set_cons_succ, List.set_cons_zero]; go_big_quiet_on)
      go_big_quiet_step ((intro hW; go_at_call 16; exact Ret.quiet hW (HM2.out _ (HUP.out _ (HB3.out.trans (hW.mono HB3.out.size))))))
      iterate 3 (go_big_quiet_step (fail))
      (go_big_quiet_want; refine quiet_load_row 26 _ rfl _ rfl _ _ _ _ HRA.out Tryz.underlying26 rfl HSZ.out ?_; simp only [Act.put, List.setIfInBounds_toArray, List.set_cons_succ, List.set_cons_zero]; go_big_quiet_on)
      (go_big_quiet_want; refine quiet_load_row 26 _ rfl _ rfl _ _ _ _ HRA.out Tryz.underlying26 rfl HSZ.out ?_; simp only [Act.put, List.setIfInBounds_toArray, List.set_cons_succ, List.set_cons_zero]; go_big_quiet_on)
      go_big_quiet_step ((intro hW; go_at_call 15; exact Ret.quiet hW (HM3.out _ (HUP.out _ (HB3.out.trans (hW.mono HB3.out.size))))))
      (go_big_quiet_want; refine quiet_load_row 26 _ rfl _ rfl _ _ _ _ HRA.out Tryz.underlying26 rfl HSZ.out ?_; simp only [Act.put, List.setIfInBounds_toArray, List.set_cons_succ, List.set_cons_zero]; go_big_quiet_on)
      go_big_quiet_step ((intro hW; go_at_call 14; exact Ret.quiet hW (HC2.out _ (HUP.out _ (HB3.out.trans (hW.mono HB3.out.size))))))
      iterate 3 (go_big_quiet_step (fail))
      refine wpQuiet_nil ?_
      intro w4 hw
      have HB4 := Lib.hid (HB3.out.trans (hw.mono HB3.out.size))
      clear hw HRA HRB
      go_wp2_with (fail)
      refine (HDC.out _ (HUP.out _ HB4.out)).mono ?_
      rintro e w5 ⟨A5, c5, B5, d5, rfl, hat, hw⟩
      have HB5 := Lib.hid (HB4.out.trans (hw.mono HB4.out.size))
      clear hw
      obtain ⟨w6, hw6⟩ : ∃ w6, w5.alloc (.cells #[.string ⟨pair.toArray⟩, .int .i64 serial, .slice A5 tn c5, .slice B5 sn d5] 26) = w6 := ⟨_, rfl⟩
      have HW6 := Lib.hid hw6
      have hb6 := (show Below w5.heap.size w5 w6 by rw [← hw6]; exact (Below.refl _ _).alloc (Nat.le_refl _) _)
      have HB6 := Lib.hid (HB5.out.trans (hb6.mono HB5.out.size))
      have HRB := Lib.hid (show w6.heap[w5.heap.size]? = some (.cells #[.string ⟨pair.toArray⟩, .int .i64 serial, .slice A5 tn c5, .slice B5 sn d5] 26 (0, 0)) by rw [← hw6]; exact heap_alloc_new _ _)
      have HRA := Lib.hid (HBX.out w6 HB6.out).1
      have HSM := Lib.hid (HSAME.out _ _ _ _ w6 (HUP.out _ HB6.out) (HAX.out _ _ _ _ _ hat _ hb6))
      clear hw6 hb6 hat
      have p0 := cell_of_row w6 _ 0 _ _ _ HRA.out
      have p1 := cell_of_row w6 _ 1 _ _ _ HRA.out
      have p2 := cell_of_row w6 _ 2 _ _ _ HRA.out
      have p3 := cell_of_row w6 _ 3 _ _ _ HRA.out
      have q0 := cell_of_row w6 _ 0 _ _ _ HRB.out
      have q1 := cell_of_row w6 _ 1 _ _ _ HRB.out
      have q2 := cell_of_row w6 _ 2 _ _ _ HRB.out
      have q3 := cell_of_row w6 _ 3 _ _ _ HRB.out
      go_upto_region 10 with (fail)
      rw [HW6.out]
      go_wp2_with (fail)
      refine HSM.out.mono ?_
      rintro e w7 ⟨rfl, hw⟩
      have HB7 := Lib.hid (HB6.out.trans (hw.mono HB6.out.size))
      clear hw
      go_wp2_with (fail)
      go_ret
      exact ⟨rfl, HUP.out _ HB7.out⟩


open Go.ChangeShapes Go.WideShapes Go.ChangeAt in
set_option maxRecDepth 100000 in
/-- What the walk gives, for every argument. -/
theorem ArchWrites_contract (H : Type) (enc : TypeId × Value → H) (W : World) (base : Nat) (args : Array Value) (ds gs : List (DataW H)) (before : List MemPlace)
    (hval : ∀ (j : Nat) t v, Tryz.f4.params[j]? = some t → args[j]? = some v → Value.okWide Tryz.prog W .any base t v)
    (hW : DataW.Whole enc Tryz.prog Tryz.f4.params.toList Rows.archWritesSpec.vars false W args.toList ds gs before) (hL : laidMetH Tryz.prog Rows.archWritesRow.laid W) (hS : W.ShapedOpen Tryz.prog) (hk : Rows.uptoSmall H (ds ++ gs) = true) :
    Calls Tryz.prog 4 args W fun e W' => ∃ v, e = .returned v ∧ Rows.archWritesSpec.post enc Tryz.prog Tryz.f4 false true false false W args v W' := by
  have hW' := hW
  obtain ⟨p, q, hA0, hV, rfl, hfz, hnd⟩ := hW
  have hA : DataW.TrodAll enc Tryz.prog W 0 (fun _ => true) true Tryz.f4.params.toList args.toList ds p := hA0
  rw [Tryz.params4] at hA hval
  obtain ⟨v0, vs0, d0, ds0, p0, q0, hargs, rfl, rfl, h0, r0⟩ := trodAll_cons hA
  obtain ⟨v1, vs1, d1, ds1, p1, q1, rfl, rfl, rfl, h1, r1⟩ := trodAll_cons r0
  obtain ⟨rfl, rfl, rfl⟩ := trodAll_nil r1
  obtain rfl : args = #[v0, v1] := by cases args; simp_all
  obtain ⟨rfl, rfl⟩ := trodVars_none hV
  obtain ⟨x0, A0, c0, B0, e0, rfl, ka0, ks0, kw0⟩ := open_arc (hval 0 26 v0 rfl rfl) h0
  obtain ⟨x1, A1, c1, B1, e1, rfl, ka1, ks1, kw1⟩ := open_arc (hval 1 26 v1 rfl rfl) h1
  clear hA0
  have hbulk := bulk_bound hk
  simp only [List.cons_append, List.nil_append, List.append_nil, Rows.uptoBulkAll] at hbulk
  obtain ⟨m, hm⟩ := laid_of hL hS
  refine (ArchWrites_any x0 x1 A0 c0 B0 e0 A1 c1 B1 e1 m W hm ka0 ka1 ks0 ks1 (fun x hx => ?_) (fun x hx => ?_)).mono ?_
  · have := sum_memA x0.tree (fun o => o.path.length + o.data.length + 1) x hx
    omega
  · have := sum_memA x1.tree (fun o => o.path.length + o.data.length + 1) x hx
    omega
  exact fun e W' ⟨he, hb⟩ => ⟨_, he, law_post rfl hW' rfl (by kernel_rfl) Tryz.underlying4 (by kernel_rfl) laidOut hb⟩

open Go.ChangeShapes Go.WideShapes Go.ChangeAt in
theorem ArchWrites_met (os : Os) : laidMet Tryz.prog Rows.archWritesUptoRow.laid ((laidWorld os).forCall (fun _ _ => 0) ⟨#[], #[.agg #[.string ⟨#[]⟩, .int .i64 0, .slice none 0 0, .slice none 0 0], .agg #[.string ⟨#[]⟩, .int .i64 0, .slice none 0 0, .slice none 0 0]], []⟩).memory :=
  laidMet_of_run' 8 (by kernel_rfl) (by kernel_rfl)
open Go.ChangeShapes Go.WideShapes Go.ChangeAt in
theorem ArchWrites_reads (os : Os) {H : Type} (enc : TypeId × Value → H) : ∃ places, DataW.whole enc Tryz.prog ((laidWorld os).forCall (fun _ _ => 0) ⟨#[], #[.agg #[.string ⟨#[]⟩, .int .i64 0, .slice none 0 0, .slice none 0 0], .agg #[.string ⟨#[]⟩, .int .i64 0, .slice none 0 0, .slice none 0 0]], []⟩).memory Tryz.f4.params.toList Rows.archWritesSpec.vars false #[.agg #[.string ⟨#[]⟩, .int .i64 0, .slice none 0 0, .slice none 0 0], .agg #[.string ⟨#[]⟩, .int .i64 0, .slice none 0 0, .slice none 0 0]].toList 8 = some ([.agg [.lit (.string []), .lit (.int .i64 0), .nil, .nil], .agg [.lit (.string []), .lit (.int .i64 0), .nil, .nil]], [], places) :=
  ⟨[], by kernel_rfl⟩

open Go.ChangeShapes Go.WideShapes Go.ChangeAt in
set_option maxRecDepth 100000 in
theorem ArchWrites_lifted (os : Os) (started : os.Started) (H : Type) (enc : TypeId × Value → H) (F : Stop.Interp) :
    ReturnsInHanded {} Tryz.checked os 4 .any ((Rows.OpenSpec.upto Rows.archWritesSpec).preRow enc Tryz.prog Tryz.f4 Rows.archWritesUptoRow.domain false Rows.archWritesUptoRow.laid) (((Rows.OpenSpec.upto Rows.archWritesSpec).at F).post enc Tryz.prog Tryz.f4 false true false false) := by
  obtain ⟨places, hx⟩ := ArchWrites_reads os enc
  refine returnsInHanded_of_row (C := Tryz.checked) (s := Rows.OpenSpec.upto Rows.archWritesSpec) own started (by kernel_rfl) Tryz.func4
    (witness_row_at (enc := enc) (C := Tryz.checked) false (laidWorld os) #[.agg #[.string ⟨#[]⟩, .int .i64 0, .slice none 0 0, .slice none 0 0], .agg #[.string ⟨#[]⟩, .int .i64 0, .slice none 0 0, .slice none 0 0]] rfl (by kernel_rfl) (by kernel_rfl) (by kernel_rfl)
      (OpenSpec.preRow_of_cond 8 hx (by kernel_rfl) (fun k hk => by cases hk; kernel_rfl) (by kernel_rfl) (ArchWrites_met os))) ?_
  intro W base args ds gs before hval hW _ hcond _ hL hS _
  exact ArchWrites_contract H enc W base args ds gs before hval hW hL hS (hcond _ rfl)

theorem ArchWrites_said : Rows.ArchWritesUptoSaid :=
  OpenClaim.holds_of_cond 4 Tryz.f4 rfl rfl rfl rfl rfl rfl rfl ⟨rfl, rfl, rfl, rfl, rfl⟩ rfl rfl rfl rfl rfl (by kernel_rfl) Tryz.func4 (by kernel_rfl)
    (of_decide_eq_true (by kernel_rfl)) (by unfold Func.isWrapper; first | (rw [if_pos (by decide +kernel)]; kernel_rfl) | (rw [if_neg (by decide +kernel)]; exact ⟨rfl, rfl⟩))
    (fun os started H enc _ F => by rw [OpenClaim.pre_eq_preRow]; exact ArchWrites_lifted os started H enc F)

theorem ArchWrites_holds : Rows.ArchWritesUptoCardSaid :=
  Claim7.holds_tied_plain_at .later [] _ _ _ _ ArchWrites_said (fun _ h => by cases h) (by kernel_rfl) (fun _ h => by cases h) archWritesUpto_row_tie rfl ⟨rfl, rfl⟩ (by kernel_rfl) rfl
    (card_plain (f0 := 4) (fn0 := Tryz.f4) (by kernel_rfl) Tryz.func4 (by kernel_rfl) (by kernel_rfl)) (by kernel_rfl)
end Go.Proofs.YtjajoiahgfafgaaGreatDoor
end
