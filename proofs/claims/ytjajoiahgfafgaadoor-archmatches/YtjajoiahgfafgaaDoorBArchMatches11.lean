/- hawserlaw09.ArchMatches: whatever two archives it is handed, the law answers true: archives match just if the bytes of both with the same stamps are the same. No condition. -/
import Derived.Test.YtjajoiahgfafgaaDoorBArchMatches10
set_option linter.unusedSimpArgs false
set_option linter.unusedVariables false

section
set_option linter.unusedVariables false
namespace Go.Proofs.YtjajoiahgfafgaaDoor
open Go.RowKit Plain

namespace Plain
def matchA (a b : Arc) : Bool := checkA a && checkA b && (a.pair == b.pair) && (a.serial == b.serial) && (a.tree == b.tree)
theorem matchA_comm (a b : Arc) : matchA b a = matchA a b := by
  unfold matchA
  rw [Bool.and_comm (checkA b), show (b.pair == a.pair) = (a.pair == b.pair) from Bool.beq_comm, show (b.serial == a.serial) = (a.serial == b.serial) from Bool.beq_comm, show (b.tree == a.tree) = (a.tree == b.tree) from Bool.beq_comm]
def withS (a b : Arc) : Arc := ⟨b.pair, b.serial, b.tree, a.stamps⟩
theorem withS_ok {a b : Arc} (ha : checkA a = true) (hb : checkA b = true) (hl : a.tree.length = b.tree.length) : checkA (withS a b) = true := by
  obtain ⟨-, -, -, -, h5, -⟩ := checkA_parts ha
  have h6 : a.stamps.all stampOK = true := by unfold checkA at ha; simp only [Bool.and_eq_true] at ha; exact ha.2
  unfold checkA at hb ⊢
  simp only [Bool.and_eq_true] at hb ⊢
  exact ⟨⟨hb.1.1, by show (a.stamps.length == b.tree.length) = true; rw [beq_iff_eq]; omega⟩, h6⟩
theorem withS_small {a b : Arc} (ha : Small a) (hb : Small b) : Small (withS a b) := ⟨hb.1, ha.2⟩
theorem match_same {a b : Arc} (ha : checkA a = true) (hb : checkA b = true) (hl : a.tree.length = b.tree.length) (sa : Small a) (sb : Small b) : (record (payA a) == record (payA (withS a b))) = matchA a b := by
  unfold matchA
  rw [ha, hb, Bool.true_and, Bool.true_and, Bool.eq_iff_iff]
  simp only [Bool.and_eq_true, beq_iff_eq]
  constructor
  · intro h
    have := pay_inj ha (withS_ok ha hb hl) sa (withS_small sa sb) h
    rw [this]
    exact ⟨⟨rfl, rfl⟩, rfl⟩
  · rintro ⟨⟨h1, h2⟩, h3⟩
    have : withS a b = a := by unfold withS; rw [← h1, ← h2, ← h3]
    rw [this]
theorem match_len {a b : Arc} (h : matchA a b = true) : checkA a = true ∧ checkA b = true ∧ a.tree.length = b.tree.length := by
  unfold matchA at h
  simp only [Bool.and_eq_true, beq_iff_eq] at h
  exact ⟨h.1.1.1.1, h.1.1.1.2, by rw [h.2]⟩
end Plain

set_option maxHeartbeats 8000000 in
set_option maxRecDepth 100000 in
theorem ArchMatches_any (a b : Arc) (A : Option Addr) (c : Nat) (B : Option Addr) (d : Nat) (A' : Option Addr) (c' : Nat) (B' : Option Addr) (d' : Nat) (m : Int) (w : World) (hL : Laid w m) (hA : ArAt a A c B d w) (hB : ArAt b A' c' B' d' w) (sa : Small a) (sb : Small b) :
    Calls Tryd.prog 4 #[.agg (arV a A c B d).toArray, .agg (arV b A' c' B' d').toArray] w (Ret w (.bool true)) := by
  have HAW := Lib.hid (fun W (h : Below w.heap.size w W) => aawake_any m W (hL.below h))
  have HM1 := Lib.hid (fun W (h : Below w.heap.size w W) => amatch_any a b A c B d A' c' B' d' m W (hL.below h) (hA.below h) (hB.below h))
  have HM2 := Lib.hid (fun W (h : Below w.heap.size w W) => amatch_any b a A' c' B' d' A c B d m W (hL.below h) (hB.below h) (hA.below h))
  have HCA := Lib.hid (fun W (h : Below w.heap.size w W) => acheck_any a A c B d m W (hL.below h) (hA.below h))
  have HCB := Lib.hid (fun W (h : Below w.heap.size w W) => acheck_any b A' c' B' d' m W (hL.below h) (hB.below h))
  have HEA := Lib.hid (fun W (h : Below w.heap.size w W) => encode_any a A c B d m W (hL.below h) (hA.below h) sa)
  have HEC := Lib.hid (fun W (h : Below w.heap.size w W) => encode_any (withS a b) A' c' B d m W (hL.below h) ⟨(hB.below h).rows, (hA.below h).stps, hB.capN, hA.capS, hB.lenN, hA.lenS, hB.txt, hB.pr⟩ (withS_small sa sb))
  change Hid (∀ W, Below w.heap.size w W → Calls _ _ _ W (Ret W (.bool (matchA a b)))) at HM1
  change Hid (∀ W, Below w.heap.size w W → Calls _ _ _ W (Ret W (.bool (matchA b a)))) at HM2
  rw [matchA_comm] at HM2
  have HML := Lib.hid (match_len (a := a) (b := b))
  have HMS := Lib.hid (fun ha hb hl => match_same (a := a) (b := b) ha hb hl sa sb)
  have HWO := Lib.hid (withS_ok (a := a) (b := b))
  have hln := hA.lenN
  have hln' := hB.lenN
  obtain ⟨w0, hw0⟩ : ∃ w0, (w.alloc (.cells (arV a A c B d).toArray 25)).alloc (.cells (arV b A' c' B' d').toArray 25) = w0 := ⟨_, rfl⟩
  have HB0 := Lib.hid (show Below w.heap.size w w0 by rw [← hw0]; exact ((Below.refl w.heap.size w).alloc (Nat.le_refl _) _).alloc (by simp) _)
  have HS0 := Lib.hid (show w0.heap.size = w.heap.size + 2 by rw [← hw0]; simp)
  have HRA := Lib.hid (show w0.heap[w.heap.size]? = some (.cells (arV a A c B d).toArray 25 (0, 0)) by rw [← hw0, Below.heap_alloc _ _ _ (by simp)]; exact heap_alloc_new _ _)
  have HRB := Lib.hid (show w0.heap[w.heap.size + 1]? = some (.cells (arV b A' c' B' d').toArray 25 (0, 0)) by have := heap_alloc_new (w.alloc (.cells (arV a A c B d).toArray 25)) (.cells (arV b A' c' B' d').toArray 25); rw [← hw0]; simpa using this)
  have HW0 := Lib.hid hw0
  have HUP := Lib.hid (show ∀ W, Below w0.heap.size w0 W → Below w.heap.size w W from fun W h => HB0.out.trans (h.mono HB0.out.size))
  clear hA hB hw0 hL sa sb
  have HBX := Lib.hid (show ∀ W, Below w0.heap.size w0 W → W.heap[w.heap.size]? = some (.cells (arV a A c B d).toArray 25 (0, 0)) ∧ W.heap[w.heap.size + 1]? = some (.cells (arV b A' c' B' d').toArray 25 (0, 0)) from fun W h => ⟨(h.block _ (lt_of_heap HRA.out)).trans HRA.out, (h.block _ (lt_of_heap HRB.out)).trans HRB.out⟩)
  have HBC := Lib.hid (Below.refl w0.heap.size w0)
  clear HRA HRB HB0 HS0
  obtain ⟨pair, serial, tree, stamps⟩ := a
  obtain ⟨pair', serial', tree', stamps'⟩ := b
  simp only at hln hln' HML HMS HWO
  unfold arV at *
  unfold withS at HEC
  generalize matchA ⟨pair, serial, tree, stamps⟩ ⟨pair', serial', tree', stamps'⟩ = bm at *
  have HENA : Hid (checkA ⟨pair, serial, tree, stamps⟩ = true → encodeA ⟨pair, serial, tree, stamps⟩ = (record (payA ⟨pair, serial, tree, stamps⟩), 0)) := Lib.hid (fun h => by unfold encodeA; rw [h]; rfl)
  have HENC : Hid (checkA (withS ⟨pair, serial, tree, stamps⟩ ⟨pair', serial', tree', stamps'⟩) = true → encodeA (withS ⟨pair, serial, tree, stamps⟩ ⟨pair', serial', tree', stamps'⟩) = (record (payA (withS ⟨pair, serial, tree, stamps⟩ ⟨pair', serial', tree', stamps'⟩)), 0)) := Lib.hid (fun h => by unfold encodeA; rw [h]; rfl)
  change Hid (∀ W, Below w.heap.size w W → Calls _ _ _ W (Ret W (.tuple #[.string ⟨(encodeA (withS ⟨pair, serial, tree, stamps⟩ ⟨pair', serial', tree', stamps'⟩)).1.toArray⟩, .int .i64 (encodeA (withS ⟨pair, serial, tree, stamps⟩ ⟨pair', serial', tree', stamps'⟩)).2]))) at HEC
  generalize withS ⟨pair, serial, tree, stamps⟩ ⟨pair', serial', tree', stamps'⟩ = cc at *
  generalize hca : checkA ⟨pair, serial, tree, stamps⟩ = ca at *
  generalize hcb : checkA ⟨pair', serial', tree', stamps'⟩ = cb at *
  clear hca hcb
  have hll : tree.length = tree.length := rfl
  simp only [Arc.tree] at HML HMS HWO HEC HEA
  cases bm with
  | true =>
    obtain ⟨rfl, rfl, hlt⟩ := HML.out rfl
    have hlt2 : ((tree.length : Int) != (tree'.length : Int)) = false := by rw [bne_eq_false_iff_eq]; omega
    have hsm := HMS.out rfl rfl hlt
    rw [HENA.out rfl] at HEA
    rw [HENC.out (HWO.out rfl rfl hlt)] at HEC
    simp only at HEA HEC
    generalize record (payA ⟨pair, serial, tree, stamps⟩) = s1 at *
    generalize record (payA cc) = s2 at *
    change Hid (∀ W, Below w.heap.size w W → Calls _ _ _ W (Ret W (.int .i64 0))) at HCA HCB
    have HLT := Lib.hid hlt
    clear hlt HML HMS HENA HENC HWO hll
    go_enter Tryd.func4, Tryd.ntmps4
    go_upto_region 1 with (fail)
    rw [HW0.out]
    go_wp2_with (fail)
    refine (HAW.out _ (HUP.out _ HBC.out)).mono ?_
    rintro e w1 ⟨rfl, hw⟩
    have HB1 := Lib.hid (HBC.out.trans (hw.mono HBC.out.size))
    clear hw
    have hra := (HBX.out w1 HB1.out).1
    have hrb := (HBX.out w1 HB1.out).2
    have p0 := cell_of_row w1 _ 0 _ _ _ hra
    have q0 := cell_of_row w1 _ 0 _ _ _ hrb
    have p1 := cell_of_row w1 _ 1 _ _ _ hra
    have q1 := cell_of_row w1 _ 1 _ _ _ hrb
    have p2 := cell_of_row w1 _ 2 _ _ _ hra
    have q2 := cell_of_row w1 _ 2 _ _ _ hrb
    have p3 := cell_of_row w1 _ 3 _ _ _ hra
    have q3 := cell_of_row w1 _ 3 _ _ _ hrb
    clear hra hrb
    go_wp2_with (fail)
    clear p0 p1 p2 p3 q0 q1 q2 q3
    refine (HM1.out _ (HUP.out _ HB1.out)).mono ?_
    rintro e w2 ⟨rfl, hw⟩
    have HB2 := Lib.hid (HB1.out.trans (hw.mono HB1.out.size))
    clear hw
    have hra := (HBX.out w2 HB2.out).1
    have hrb := (HBX.out w2 HB2.out).2
    have p0 := cell_of_row w2 _ 0 _ _ _ hra
    have q0 := cell_of_row w2 _ 0 _ _ _ hrb
    have p1 := cell_of_row w2 _ 1 _ _ _ hra
    have q1 := cell_of_row w2 _ 1 _ _ _ hrb
    have p2 := cell_of_row w2 _ 2 _ _ _ hra
    have q2 := cell_of_row w2 _ 2 _ _ _ hrb
    have p3 := cell_of_row w2 _ 3 _ _ _ hra
    have q3 := cell_of_row w2 _ 3 _ _ _ hrb
    clear hra hrb
    go_wp2_with (fail)
    clear p0 p1 p2 p3 q0 q1 q2 q3
    refine (HM2.out _ (HUP.out _ HB2.out)).mono ?_
    rintro e w3 ⟨rfl, hw⟩
    have HB3 := Lib.hid (HB2.out.trans (hw.mono HB2.out.size))
    clear hw
    have hra := (HBX.out w3 HB3.out).1
    have hrb := (HBX.out w3 HB3.out).2
    have p0 := cell_of_row w3 _ 0 _ _ _ hra
    have q0 := cell_of_row w3 _ 0 _ _ _ hrb
    have p1 := cell_of_row w3 _ 1 _ _ _ hra
    have q1 := cell_of_row w3 _ 1 _ _ _ hrb
    have p2 := cell_of_row w3 _ 2 _ _ _ hra
    have q2 := cell_of_row w3 _ 2 _ _ _ hrb
    have p3 := cell_of_row w3 _ 3 _ _ _ hra
    have q3 := cell_of_row w3 _ 3 _ _ _ hrb
    clear hra hrb
    go_wp2_with (fail)
    clear p0 p1 p2 p3 q0 q1 q2 q3
    refine (HCA.out _ (HUP.out _ HB3.out)).mono ?_
    rintro e w4 ⟨rfl, hw⟩
    have HB4 := Lib.hid (HB3.out.trans (hw.mono HB3.out.size))
    clear hw
    have hra := (HBX.out w4 HB4.out).1
    have hrb := (HBX.out w4 HB4.out).2
    have p0 := cell_of_row w4 _ 0 _ _ _ hra
    have q0 := cell_of_row w4 _ 0 _ _ _ hrb
    have p1 := cell_of_row w4 _ 1 _ _ _ hra
    have q1 := cell_of_row w4 _ 1 _ _ _ hrb
    have p2 := cell_of_row w4 _ 2 _ _ _ hra
    have q2 := cell_of_row w4 _ 2 _ _ _ hrb
    have p3 := cell_of_row w4 _ 3 _ _ _ hra
    have q3 := cell_of_row w4 _ 3 _ _ _ hrb
    clear hra hrb
    go_wp2_with (fail)
    clear p0 p1 p2 p3 q0 q1 q2 q3
    refine (HCB.out _ (HUP.out _ HB4.out)).mono ?_
    rintro e w5 ⟨rfl, hw⟩
    have HB5 := Lib.hid (HB4.out.trans (hw.mono HB4.out.size))
    clear hw
    have hra := (HBX.out w5 HB5.out).1
    have hrb := (HBX.out w5 HB5.out).2
    have p0 := cell_of_row w5 _ 0 _ _ _ hra
    have q0 := cell_of_row w5 _ 0 _ _ _ hrb
    have p1 := cell_of_row w5 _ 1 _ _ _ hra
    have q1 := cell_of_row w5 _ 1 _ _ _ hrb
    have p2 := cell_of_row w5 _ 2 _ _ _ hra
    have q2 := cell_of_row w5 _ 2 _ _ _ hrb
    have p3 := cell_of_row w5 _ 3 _ _ _ hra
    have q3 := cell_of_row w5 _ 3 _ _ _ hrb
    clear hra hrb
    go_wp2_with (fail)
    clear p0 p1 p2 p3 q0 q1 q2 q3
    refine (HCA.out _ (HUP.out _ HB5.out)).mono ?_
    rintro e w6 ⟨rfl, hw⟩
    have HB6 := Lib.hid (HB5.out.trans (hw.mono HB5.out.size))
    clear hw
    have hra := (HBX.out w6 HB6.out).1
    have hrb := (HBX.out w6 HB6.out).2
    have p0 := cell_of_row w6 _ 0 _ _ _ hra
    have q0 := cell_of_row w6 _ 0 _ _ _ hrb
    have p1 := cell_of_row w6 _ 1 _ _ _ hra
    have q1 := cell_of_row w6 _ 1 _ _ _ hrb
    have p2 := cell_of_row w6 _ 2 _ _ _ hra
    have q2 := cell_of_row w6 _ 2 _ _ _ hrb
    have p3 := cell_of_row w6 _ 3 _ _ _ hra
    have q3 := cell_of_row w6 _ 3 _ _ _ hrb
    clear hra hrb
    go_wp2_with (fail)
    clear p0 p1 p2 p3 q0 q1 q2 q3
    refine (HCB.out _ (HUP.out _ HB6.out)).mono ?_
    rintro e w7 ⟨rfl, hw⟩
    have HB7 := Lib.hid (HB6.out.trans (hw.mono HB6.out.size))
    clear hw
    have hra := (HBX.out w7 HB7.out).1
    have hrb := (HBX.out w7 HB7.out).2
    have p0 := cell_of_row w7 _ 0 _ _ _ hra
    have q0 := cell_of_row w7 _ 0 _ _ _ hrb
    have p1 := cell_of_row w7 _ 1 _ _ _ hra
    have q1 := cell_of_row w7 _ 1 _ _ _ hrb
    have p2 := cell_of_row w7 _ 2 _ _ _ hra
    have q2 := cell_of_row w7 _ 2 _ _ _ hrb
    have p3 := cell_of_row w7 _ 3 _ _ _ hra
    have q3 := cell_of_row w7 _ 3 _ _ _ hrb
    clear hra hrb
    obtain ⟨wt, hwt⟩ : ∃ wt, w7.alloc (.cells #[.string ⟨pair'.toArray⟩, .int .i64 serial', .slice A' tree'.length c', .slice B' stamps'.length d'] 25) = wt := ⟨_, rfl⟩
    have HWT := Lib.hid hwt
    have HBT := Lib.hid (show Below w0.heap.size w0 wt by rw [← hwt]; exact HB7.out.alloc HB7.out.size _)
    have hrt := (show wt.heap[w7.heap.size]? = some (.cells #[.string ⟨pair'.toArray⟩, .int .i64 serial', .slice A' tree'.length c', .slice B' stamps'.length d'] 25 (0, 0)) by rw [← hwt]; exact heap_alloc_new _ _)
    have HRT := Lib.hid hrt
    have HGE := Lib.hid (show w0.heap.size ≤ w7.heap.size from HB7.out.size)
    clear hwt hrt
    go_upto_region 9 with (fail)
    clear p0 p1 p2 p3 q0 q1 q2 q3
    rw [HWT.out]
    generalize w7.heap.size = cb8 at *
    have hra := (HBX.out wt HBT.out).1
    have hrb := (HBX.out wt HBT.out).2
    have p0 := cell_of_row wt _ 0 _ _ _ hra
    have q0 := cell_of_row wt _ 0 _ _ _ hrb
    have p1 := cell_of_row wt _ 1 _ _ _ hra
    have q1 := cell_of_row wt _ 1 _ _ _ hrb
    have p2 := cell_of_row wt _ 2 _ _ _ hra
    have q2 := cell_of_row wt _ 2 _ _ _ hrb
    have p3 := cell_of_row wt _ 3 _ _ _ hra
    have q3 := cell_of_row wt _ 3 _ _ _ hrb
    clear hra hrb
    have t3 := cell_of_row wt _ 3 _ _ _ HRT.out
    have tf := frozen_of_row wt cb8 3 _ _ HRT.out
    have HBS := Lib.hid (HBT.out.setCell (p := ⟨cb8, 3, none⟩) HGE.out (.slice B stamps.length d))
    have HRC : Hid ((wt.setCell ⟨cb8, 3, none⟩ (.slice B stamps.length d)).heap[cb8]? = some (.cells #[.string ⟨pair'.toArray⟩, .int .i64 serial', .slice A' tree'.length c', .slice B stamps.length d] 25 (0, 0))) := Lib.hid (by rw [heap_set HRT.out]; rfl)
    go_upto_region 10 with (fail)
    clear p0 p1 p2 p3 q0 q1 q2 q3
    clear t3 tf
    generalize wt.setCell ⟨cb8, 3, none⟩ (.slice B stamps.length d) = ws at *
    have hra := (HBX.out ws HBS.out).1
    have hrb := (HBX.out ws HBS.out).2
    have p0 := cell_of_row ws _ 0 _ _ _ hra
    have q0 := cell_of_row ws _ 0 _ _ _ hrb
    have p1 := cell_of_row ws _ 1 _ _ _ hra
    have q1 := cell_of_row ws _ 1 _ _ _ hrb
    have p2 := cell_of_row ws _ 2 _ _ _ hra
    have q2 := cell_of_row ws _ 2 _ _ _ hrb
    have p3 := cell_of_row ws _ 3 _ _ _ hra
    have q3 := cell_of_row ws _ 3 _ _ _ hrb
    clear hra hrb
    go_wp2_with (fail)
    clear p0 p1 p2 p3 q0 q1 q2 q3
    refine (HEA.out _ (HUP.out _ HBS.out)).mono ?_
    rintro e wx ⟨rfl, hw⟩
    have HBE := Lib.hid (HBS.out.trans (hw.mono HBS.out.size))
    have hrc := (hw.block _ (lt_of_heap HRC.out)).trans HRC.out
    have r0 := cell_of_row wx _ 0 _ _ _ hrc
    have r1 := cell_of_row wx _ 1 _ _ _ hrc
    have r2 := cell_of_row wx _ 2 _ _ _ hrc
    have r3 := cell_of_row wx _ 3 _ _ _ hrc
    clear hrc
    clear hw
    go_wp2_with (fail)
    clear r0 r1 r2 r3
    refine (HEC.out _ (HUP.out _ HBE.out)).mono ?_
    rintro e wy ⟨rfl, hw⟩
    have HBF := Lib.hid (HBE.out.trans (hw.mono HBE.out.size))
    clear hw
    have hra := (HBX.out wy HBF.out).1
    have hrb := (HBX.out wy HBF.out).2
    have p0 := cell_of_row wy _ 0 _ _ _ hra
    have q0 := cell_of_row wy _ 0 _ _ _ hrb
    have p1 := cell_of_row wy _ 1 _ _ _ hra
    have q1 := cell_of_row wy _ 1 _ _ _ hrb
    have p2 := cell_of_row wy _ 2 _ _ _ hra
    have q2 := cell_of_row wy _ 2 _ _ _ hrb
    have p3 := cell_of_row wy _ 3 _ _ _ hra
    have q3 := cell_of_row wy _ 3 _ _ _ hrb
    clear hra hrb
    go_wp2_with (fail)
    go_ret
    exact ⟨rfl, HUP.out _ HBF.out⟩
  | false =>
  cases ca with
  | false =>
    change Hid (∀ W, Below w.heap.size w W → Calls _ _ _ W (Ret W (.int .i64 90))) at HCA
    clear HML HMS HENA HENC HWO hll HEA HEC HCB
    go_enter Tryd.func4, Tryd.ntmps4
    go_upto_region 1 with (fail)
    rw [HW0.out]
    go_wp2_with (fail)
    refine (HAW.out _ (HUP.out _ HBC.out)).mono ?_
    rintro e w1 ⟨rfl, hw⟩
    have HB1 := Lib.hid (HBC.out.trans (hw.mono HBC.out.size))
    clear hw
    have hra := (HBX.out w1 HB1.out).1
    have hrb := (HBX.out w1 HB1.out).2
    have p0 := cell_of_row w1 _ 0 _ _ _ hra
    have q0 := cell_of_row w1 _ 0 _ _ _ hrb
    have p1 := cell_of_row w1 _ 1 _ _ _ hra
    have q1 := cell_of_row w1 _ 1 _ _ _ hrb
    have p2 := cell_of_row w1 _ 2 _ _ _ hra
    have q2 := cell_of_row w1 _ 2 _ _ _ hrb
    have p3 := cell_of_row w1 _ 3 _ _ _ hra
    have q3 := cell_of_row w1 _ 3 _ _ _ hrb
    clear hra hrb
    go_wp2_with (fail)
    clear p0 p1 p2 p3 q0 q1 q2 q3
    refine (HM1.out _ (HUP.out _ HB1.out)).mono ?_
    rintro e w2 ⟨rfl, hw⟩
    have HB2 := Lib.hid (HB1.out.trans (hw.mono HB1.out.size))
    clear hw
    have hra := (HBX.out w2 HB2.out).1
    have hrb := (HBX.out w2 HB2.out).2
    have p0 := cell_of_row w2 _ 0 _ _ _ hra
    have q0 := cell_of_row w2 _ 0 _ _ _ hrb
    have p1 := cell_of_row w2 _ 1 _ _ _ hra
    have q1 := cell_of_row w2 _ 1 _ _ _ hrb
    have p2 := cell_of_row w2 _ 2 _ _ _ hra
    have q2 := cell_of_row w2 _ 2 _ _ _ hrb
    have p3 := cell_of_row w2 _ 3 _ _ _ hra
    have q3 := cell_of_row w2 _ 3 _ _ _ hrb
    clear hra hrb
    go_wp2_with (fail)
    clear p0 p1 p2 p3 q0 q1 q2 q3
    refine (HM2.out _ (HUP.out _ HB2.out)).mono ?_
    rintro e w3 ⟨rfl, hw⟩
    have HB3 := Lib.hid (HB2.out.trans (hw.mono HB2.out.size))
    clear hw
    have hra := (HBX.out w3 HB3.out).1
    have hrb := (HBX.out w3 HB3.out).2
    have p0 := cell_of_row w3 _ 0 _ _ _ hra
    have q0 := cell_of_row w3 _ 0 _ _ _ hrb
    have p1 := cell_of_row w3 _ 1 _ _ _ hra
    have q1 := cell_of_row w3 _ 1 _ _ _ hrb
    have p2 := cell_of_row w3 _ 2 _ _ _ hra
    have q2 := cell_of_row w3 _ 2 _ _ _ hrb
    have p3 := cell_of_row w3 _ 3 _ _ _ hra
    have q3 := cell_of_row w3 _ 3 _ _ _ hrb
    clear hra hrb
    go_wp2_with (fail)
    clear p0 p1 p2 p3 q0 q1 q2 q3
    refine (HCA.out _ (HUP.out _ HB3.out)).mono ?_
    rintro e w4 ⟨rfl, hw⟩
    have HB4 := Lib.hid (HB3.out.trans (hw.mono HB3.out.size))
    clear hw
    have hra := (HBX.out w4 HB4.out).1
    have hrb := (HBX.out w4 HB4.out).2
    have p0 := cell_of_row w4 _ 0 _ _ _ hra
    have q0 := cell_of_row w4 _ 0 _ _ _ hrb
    have p1 := cell_of_row w4 _ 1 _ _ _ hra
    have q1 := cell_of_row w4 _ 1 _ _ _ hrb
    have p2 := cell_of_row w4 _ 2 _ _ _ hra
    have q2 := cell_of_row w4 _ 2 _ _ _ hrb
    have p3 := cell_of_row w4 _ 3 _ _ _ hra
    have q3 := cell_of_row w4 _ 3 _ _ _ hrb
    clear hra hrb
    go_wp2_with (fail)
    go_ret
    exact ⟨rfl, HUP.out _ HB4.out⟩
  | true =>
  change Hid (∀ W, Below w.heap.size w W → Calls _ _ _ W (Ret W (.int .i64 0))) at HCA
  cases cb with
  | false =>
    change Hid (∀ W, Below w.heap.size w W → Calls _ _ _ W (Ret W (.int .i64 90))) at HCB
    clear HML HMS HENA HENC HWO hll HEA HEC
    go_enter Tryd.func4, Tryd.ntmps4
    go_upto_region 1 with (fail)
    rw [HW0.out]
    go_wp2_with (fail)
    refine (HAW.out _ (HUP.out _ HBC.out)).mono ?_
    rintro e w1 ⟨rfl, hw⟩
    have HB1 := Lib.hid (HBC.out.trans (hw.mono HBC.out.size))
    clear hw
    have hra := (HBX.out w1 HB1.out).1
    have hrb := (HBX.out w1 HB1.out).2
    have p0 := cell_of_row w1 _ 0 _ _ _ hra
    have q0 := cell_of_row w1 _ 0 _ _ _ hrb
    have p1 := cell_of_row w1 _ 1 _ _ _ hra
    have q1 := cell_of_row w1 _ 1 _ _ _ hrb
    have p2 := cell_of_row w1 _ 2 _ _ _ hra
    have q2 := cell_of_row w1 _ 2 _ _ _ hrb
    have p3 := cell_of_row w1 _ 3 _ _ _ hra
    have q3 := cell_of_row w1 _ 3 _ _ _ hrb
    clear hra hrb
    go_wp2_with (fail)
    clear p0 p1 p2 p3 q0 q1 q2 q3
    refine (HM1.out _ (HUP.out _ HB1.out)).mono ?_
    rintro e w2 ⟨rfl, hw⟩
    have HB2 := Lib.hid (HB1.out.trans (hw.mono HB1.out.size))
    clear hw
    have hra := (HBX.out w2 HB2.out).1
    have hrb := (HBX.out w2 HB2.out).2
    have p0 := cell_of_row w2 _ 0 _ _ _ hra
    have q0 := cell_of_row w2 _ 0 _ _ _ hrb
    have p1 := cell_of_row w2 _ 1 _ _ _ hra
    have q1 := cell_of_row w2 _ 1 _ _ _ hrb
    have p2 := cell_of_row w2 _ 2 _ _ _ hra
    have q2 := cell_of_row w2 _ 2 _ _ _ hrb
    have p3 := cell_of_row w2 _ 3 _ _ _ hra
    have q3 := cell_of_row w2 _ 3 _ _ _ hrb
    clear hra hrb
    go_wp2_with (fail)
    clear p0 p1 p2 p3 q0 q1 q2 q3
    refine (HM2.out _ (HUP.out _ HB2.out)).mono ?_
    rintro e w3 ⟨rfl, hw⟩
    have HB3 := Lib.hid (HB2.out.trans (hw.mono HB2.out.size))
    clear hw
    have hra := (HBX.out w3 HB3.out).1
    have hrb := (HBX.out w3 HB3.out).2
    have p0 := cell_of_row w3 _ 0 _ _ _ hra
    have q0 := cell_of_row w3 _ 0 _ _ _ hrb
    have p1 := cell_of_row w3 _ 1 _ _ _ hra
    have q1 := cell_of_row w3 _ 1 _ _ _ hrb
    have p2 := cell_of_row w3 _ 2 _ _ _ hra
    have q2 := cell_of_row w3 _ 2 _ _ _ hrb
    have p3 := cell_of_row w3 _ 3 _ _ _ hra
    have q3 := cell_of_row w3 _ 3 _ _ _ hrb
    clear hra hrb
    go_wp2_with (fail)
    clear p0 p1 p2 p3 q0 q1 q2 q3
    refine (HCA.out _ (HUP.out _ HB3.out)).mono ?_
    rintro e w4 ⟨rfl, hw⟩
    have HB4 := Lib.hid (HB3.out.trans (hw.mono HB3.out.size))
    clear hw
    have hra := (HBX.out w4 HB4.out).1
    have hrb := (HBX.out w4 HB4.out).2
    have p0 := cell_of_row w4 _ 0 _ _ _ hra
    have q0 := cell_of_row w4 _ 0 _ _ _ hrb
    have p1 := cell_of_row w4 _ 1 _ _ _ hra
    have q1 := cell_of_row w4 _ 1 _ _ _ hrb
    have p2 := cell_of_row w4 _ 2 _ _ _ hra
    have q2 := cell_of_row w4 _ 2 _ _ _ hrb
    have p3 := cell_of_row w4 _ 3 _ _ _ hra
    have q3 := cell_of_row w4 _ 3 _ _ _ hrb
    clear hra hrb
    go_wp2_with (fail)
    clear p0 p1 p2 p3 q0 q1 q2 q3
    refine (HCB.out _ (HUP.out _ HB4.out)).mono ?_
    rintro e w5 ⟨rfl, hw⟩
    have HB5 := Lib.hid (HB4.out.trans (hw.mono HB4.out.size))
    clear hw
    have hra := (HBX.out w5 HB5.out).1
    have hrb := (HBX.out w5 HB5.out).2
    have p0 := cell_of_row w5 _ 0 _ _ _ hra
    have q0 := cell_of_row w5 _ 0 _ _ _ hrb
    have p1 := cell_of_row w5 _ 1 _ _ _ hra
    have q1 := cell_of_row w5 _ 1 _ _ _ hrb
    have p2 := cell_of_row w5 _ 2 _ _ _ hra
    have q2 := cell_of_row w5 _ 2 _ _ _ hrb
    have p3 := cell_of_row w5 _ 3 _ _ _ hra
    have q3 := cell_of_row w5 _ 3 _ _ _ hrb
    clear hra hrb
    go_wp2_with (fail)
    go_ret
    exact ⟨rfl, HUP.out _ HB5.out⟩
  | true =>
  change Hid (∀ W, Below w.heap.size w W → Calls _ _ _ W (Ret W (.int .i64 0))) at HCB
  by_cases hlt : tree.length = tree'.length
  · have hlt2 : ((tree.length : Int) != (tree'.length : Int)) = false := by rw [bne_eq_false_iff_eq]; omega
    have hsm := HMS.out rfl rfl hlt
    rw [HENA.out rfl] at HEA
    rw [HENC.out (HWO.out rfl rfl hlt)] at HEC
    simp only at HEA HEC
    generalize record (payA ⟨pair, serial, tree, stamps⟩) = s1 at *
    generalize record (payA cc) = s2 at *
    have HLT := Lib.hid hlt
    clear hlt HML HMS HENA HENC HWO hll
    go_enter Tryd.func4, Tryd.ntmps4
    go_upto_region 1 with (fail)
    rw [HW0.out]
    go_wp2_with (fail)
    refine (HAW.out _ (HUP.out _ HBC.out)).mono ?_
    rintro e w1 ⟨rfl, hw⟩
    have HB1 := Lib.hid (HBC.out.trans (hw.mono HBC.out.size))
    clear hw
    have hra := (HBX.out w1 HB1.out).1
    have hrb := (HBX.out w1 HB1.out).2
    have p0 := cell_of_row w1 _ 0 _ _ _ hra
    have q0 := cell_of_row w1 _ 0 _ _ _ hrb
    have p1 := cell_of_row w1 _ 1 _ _ _ hra
    have q1 := cell_of_row w1 _ 1 _ _ _ hrb
    have p2 := cell_of_row w1 _ 2 _ _ _ hra
    have q2 := cell_of_row w1 _ 2 _ _ _ hrb
    have p3 := cell_of_row w1 _ 3 _ _ _ hra
    have q3 := cell_of_row w1 _ 3 _ _ _ hrb
    clear hra hrb
    go_wp2_with (fail)
    clear p0 p1 p2 p3 q0 q1 q2 q3
    refine (HM1.out _ (HUP.out _ HB1.out)).mono ?_
    rintro e w2 ⟨rfl, hw⟩
    have HB2 := Lib.hid (HB1.out.trans (hw.mono HB1.out.size))
    clear hw
    have hra := (HBX.out w2 HB2.out).1
    have hrb := (HBX.out w2 HB2.out).2
    have p0 := cell_of_row w2 _ 0 _ _ _ hra
    have q0 := cell_of_row w2 _ 0 _ _ _ hrb
    have p1 := cell_of_row w2 _ 1 _ _ _ hra
    have q1 := cell_of_row w2 _ 1 _ _ _ hrb
    have p2 := cell_of_row w2 _ 2 _ _ _ hra
    have q2 := cell_of_row w2 _ 2 _ _ _ hrb
    have p3 := cell_of_row w2 _ 3 _ _ _ hra
    have q3 := cell_of_row w2 _ 3 _ _ _ hrb
    clear hra hrb
    go_wp2_with (fail)
    clear p0 p1 p2 p3 q0 q1 q2 q3
    refine (HM2.out _ (HUP.out _ HB2.out)).mono ?_
    rintro e w3 ⟨rfl, hw⟩
    have HB3 := Lib.hid (HB2.out.trans (hw.mono HB2.out.size))
    clear hw
    have hra := (HBX.out w3 HB3.out).1
    have hrb := (HBX.out w3 HB3.out).2
    have p0 := cell_of_row w3 _ 0 _ _ _ hra
    have q0 := cell_of_row w3 _ 0 _ _ _ hrb
    have p1 := cell_of_row w3 _ 1 _ _ _ hra
    have q1 := cell_of_row w3 _ 1 _ _ _ hrb
    have p2 := cell_of_row w3 _ 2 _ _ _ hra
    have q2 := cell_of_row w3 _ 2 _ _ _ hrb
    have p3 := cell_of_row w3 _ 3 _ _ _ hra
    have q3 := cell_of_row w3 _ 3 _ _ _ hrb
    clear hra hrb
    go_wp2_with (fail)
    clear p0 p1 p2 p3 q0 q1 q2 q3
    refine (HCA.out _ (HUP.out _ HB3.out)).mono ?_
    rintro e w4 ⟨rfl, hw⟩
    have HB4 := Lib.hid (HB3.out.trans (hw.mono HB3.out.size))
    clear hw
    have hra := (HBX.out w4 HB4.out).1
    have hrb := (HBX.out w4 HB4.out).2
    have p0 := cell_of_row w4 _ 0 _ _ _ hra
    have q0 := cell_of_row w4 _ 0 _ _ _ hrb
    have p1 := cell_of_row w4 _ 1 _ _ _ hra
    have q1 := cell_of_row w4 _ 1 _ _ _ hrb
    have p2 := cell_of_row w4 _ 2 _ _ _ hra
    have q2 := cell_of_row w4 _ 2 _ _ _ hrb
    have p3 := cell_of_row w4 _ 3 _ _ _ hra
    have q3 := cell_of_row w4 _ 3 _ _ _ hrb
    clear hra hrb
    go_wp2_with (fail)
    clear p0 p1 p2 p3 q0 q1 q2 q3
    refine (HCB.out _ (HUP.out _ HB4.out)).mono ?_
    rintro e w5 ⟨rfl, hw⟩
    have HB5 := Lib.hid (HB4.out.trans (hw.mono HB4.out.size))
    clear hw
    have hra := (HBX.out w5 HB5.out).1
    have hrb := (HBX.out w5 HB5.out).2
    have p0 := cell_of_row w5 _ 0 _ _ _ hra
    have q0 := cell_of_row w5 _ 0 _ _ _ hrb
    have p1 := cell_of_row w5 _ 1 _ _ _ hra
    have q1 := cell_of_row w5 _ 1 _ _ _ hrb
    have p2 := cell_of_row w5 _ 2 _ _ _ hra
    have q2 := cell_of_row w5 _ 2 _ _ _ hrb
    have p3 := cell_of_row w5 _ 3 _ _ _ hra
    have q3 := cell_of_row w5 _ 3 _ _ _ hrb
    clear hra hrb
    obtain ⟨wt, hwt⟩ : ∃ wt, w5.alloc (.cells #[.string ⟨pair'.toArray⟩, .int .i64 serial', .slice A' tree'.length c', .slice B' stamps'.length d'] 25) = wt := ⟨_, rfl⟩
    have HWT := Lib.hid hwt
    have HBT := Lib.hid (show Below w0.heap.size w0 wt by rw [← hwt]; exact HB5.out.alloc HB5.out.size _)
    have hrt := (show wt.heap[w5.heap.size]? = some (.cells #[.string ⟨pair'.toArray⟩, .int .i64 serial', .slice A' tree'.length c', .slice B' stamps'.length d'] 25 (0, 0)) by rw [← hwt]; exact heap_alloc_new _ _)
    have HRT := Lib.hid hrt
    have HGE := Lib.hid (show w0.heap.size ≤ w5.heap.size from HB5.out.size)
    clear hwt hrt
    go_upto_region 9 with (fail)
    clear p0 p1 p2 p3 q0 q1 q2 q3
    rw [HWT.out]
    generalize w5.heap.size = cb8 at *
    have hra := (HBX.out wt HBT.out).1
    have hrb := (HBX.out wt HBT.out).2
    have p0 := cell_of_row wt _ 0 _ _ _ hra
    have q0 := cell_of_row wt _ 0 _ _ _ hrb
    have p1 := cell_of_row wt _ 1 _ _ _ hra
    have q1 := cell_of_row wt _ 1 _ _ _ hrb
    have p2 := cell_of_row wt _ 2 _ _ _ hra
    have q2 := cell_of_row wt _ 2 _ _ _ hrb
    have p3 := cell_of_row wt _ 3 _ _ _ hra
    have q3 := cell_of_row wt _ 3 _ _ _ hrb
    clear hra hrb
    have t3 := cell_of_row wt _ 3 _ _ _ HRT.out
    have tf := frozen_of_row wt cb8 3 _ _ HRT.out
    have HBS := Lib.hid (HBT.out.setCell (p := ⟨cb8, 3, none⟩) HGE.out (.slice B stamps.length d))
    have HRC : Hid ((wt.setCell ⟨cb8, 3, none⟩ (.slice B stamps.length d)).heap[cb8]? = some (.cells #[.string ⟨pair'.toArray⟩, .int .i64 serial', .slice A' tree'.length c', .slice B stamps.length d] 25 (0, 0))) := Lib.hid (by rw [heap_set HRT.out]; rfl)
    go_upto_region 10 with (fail)
    clear p0 p1 p2 p3 q0 q1 q2 q3
    clear t3 tf
    generalize wt.setCell ⟨cb8, 3, none⟩ (.slice B stamps.length d) = ws at *
    have hra := (HBX.out ws HBS.out).1
    have hrb := (HBX.out ws HBS.out).2
    have p0 := cell_of_row ws _ 0 _ _ _ hra
    have q0 := cell_of_row ws _ 0 _ _ _ hrb
    have p1 := cell_of_row ws _ 1 _ _ _ hra
    have q1 := cell_of_row ws _ 1 _ _ _ hrb
    have p2 := cell_of_row ws _ 2 _ _ _ hra
    have q2 := cell_of_row ws _ 2 _ _ _ hrb
    have p3 := cell_of_row ws _ 3 _ _ _ hra
    have q3 := cell_of_row ws _ 3 _ _ _ hrb
    clear hra hrb
    go_wp2_with (fail)
    clear p0 p1 p2 p3 q0 q1 q2 q3
    refine (HEA.out _ (HUP.out _ HBS.out)).mono ?_
    rintro e wx ⟨rfl, hw⟩
    have HBE := Lib.hid (HBS.out.trans (hw.mono HBS.out.size))
    have hrc := (hw.block _ (lt_of_heap HRC.out)).trans HRC.out
    have r0 := cell_of_row wx _ 0 _ _ _ hrc
    have r1 := cell_of_row wx _ 1 _ _ _ hrc
    have r2 := cell_of_row wx _ 2 _ _ _ hrc
    have r3 := cell_of_row wx _ 3 _ _ _ hrc
    clear hrc
    clear hw
    go_wp2_with (fail)
    clear r0 r1 r2 r3
    refine (HEC.out _ (HUP.out _ HBE.out)).mono ?_
    rintro e wy ⟨rfl, hw⟩
    have HBF := Lib.hid (HBE.out.trans (hw.mono HBE.out.size))
    clear hw
    have hra := (HBX.out wy HBF.out).1
    have hrb := (HBX.out wy HBF.out).2
    have p0 := cell_of_row wy _ 0 _ _ _ hra
    have q0 := cell_of_row wy _ 0 _ _ _ hrb
    have p1 := cell_of_row wy _ 1 _ _ _ hra
    have q1 := cell_of_row wy _ 1 _ _ _ hrb
    have p2 := cell_of_row wy _ 2 _ _ _ hra
    have q2 := cell_of_row wy _ 2 _ _ _ hrb
    have p3 := cell_of_row wy _ 3 _ _ _ hra
    have q3 := cell_of_row wy _ 3 _ _ _ hrb
    clear hra hrb
    go_wp2_with (fail)
    go_ret
    exact ⟨rfl, HUP.out _ HBF.out⟩
  · have hlt2 : ((tree.length : Int) != (tree'.length : Int)) = true := by rw [bne_iff_ne]; omega
    have HLT := Lib.hid hlt
    clear hlt HML HMS HENA HENC HWO hll
    generalize encodeA ⟨pair, serial, tree, stamps⟩ = e1 at *
    generalize encodeA cc = e2 at *
    obtain ⟨s1, n1⟩ := e1
    obtain ⟨s2, n2⟩ := e2
    simp only at HEA HEC
    go_enter Tryd.func4, Tryd.ntmps4
    go_upto_region 1 with (fail)
    rw [HW0.out]
    go_wp2_with (fail)
    refine (HAW.out _ (HUP.out _ HBC.out)).mono ?_
    rintro e w1 ⟨rfl, hw⟩
    have HB1 := Lib.hid (HBC.out.trans (hw.mono HBC.out.size))
    clear hw
    have hra := (HBX.out w1 HB1.out).1
    have hrb := (HBX.out w1 HB1.out).2
    have p0 := cell_of_row w1 _ 0 _ _ _ hra
    have q0 := cell_of_row w1 _ 0 _ _ _ hrb
    have p1 := cell_of_row w1 _ 1 _ _ _ hra
    have q1 := cell_of_row w1 _ 1 _ _ _ hrb
    have p2 := cell_of_row w1 _ 2 _ _ _ hra
    have q2 := cell_of_row w1 _ 2 _ _ _ hrb
    have p3 := cell_of_row w1 _ 3 _ _ _ hra
    have q3 := cell_of_row w1 _ 3 _ _ _ hrb
    clear hra hrb
    go_wp2_with (fail)
    clear p0 p1 p2 p3 q0 q1 q2 q3
    refine (HM1.out _ (HUP.out _ HB1.out)).mono ?_
    rintro e w2 ⟨rfl, hw⟩
    have HB2 := Lib.hid (HB1.out.trans (hw.mono HB1.out.size))
    clear hw
    have hra := (HBX.out w2 HB2.out).1
    have hrb := (HBX.out w2 HB2.out).2
    have p0 := cell_of_row w2 _ 0 _ _ _ hra
    have q0 := cell_of_row w2 _ 0 _ _ _ hrb
    have p1 := cell_of_row w2 _ 1 _ _ _ hra
    have q1 := cell_of_row w2 _ 1 _ _ _ hrb
    have p2 := cell_of_row w2 _ 2 _ _ _ hra
    have q2 := cell_of_row w2 _ 2 _ _ _ hrb
    have p3 := cell_of_row w2 _ 3 _ _ _ hra
    have q3 := cell_of_row w2 _ 3 _ _ _ hrb
    clear hra hrb
    go_wp2_with (fail)
    clear p0 p1 p2 p3 q0 q1 q2 q3
    refine (HM2.out _ (HUP.out _ HB2.out)).mono ?_
    rintro e w3 ⟨rfl, hw⟩
    have HB3 := Lib.hid (HB2.out.trans (hw.mono HB2.out.size))
    clear hw
    have hra := (HBX.out w3 HB3.out).1
    have hrb := (HBX.out w3 HB3.out).2
    have p0 := cell_of_row w3 _ 0 _ _ _ hra
    have q0 := cell_of_row w3 _ 0 _ _ _ hrb
    have p1 := cell_of_row w3 _ 1 _ _ _ hra
    have q1 := cell_of_row w3 _ 1 _ _ _ hrb
    have p2 := cell_of_row w3 _ 2 _ _ _ hra
    have q2 := cell_of_row w3 _ 2 _ _ _ hrb
    have p3 := cell_of_row w3 _ 3 _ _ _ hra
    have q3 := cell_of_row w3 _ 3 _ _ _ hrb
    clear hra hrb
    go_wp2_with (fail)
    clear p0 p1 p2 p3 q0 q1 q2 q3
    refine (HCA.out _ (HUP.out _ HB3.out)).mono ?_
    rintro e w4 ⟨rfl, hw⟩
    have HB4 := Lib.hid (HB3.out.trans (hw.mono HB3.out.size))
    clear hw
    have hra := (HBX.out w4 HB4.out).1
    have hrb := (HBX.out w4 HB4.out).2
    have p0 := cell_of_row w4 _ 0 _ _ _ hra
    have q0 := cell_of_row w4 _ 0 _ _ _ hrb
    have p1 := cell_of_row w4 _ 1 _ _ _ hra
    have q1 := cell_of_row w4 _ 1 _ _ _ hrb
    have p2 := cell_of_row w4 _ 2 _ _ _ hra
    have q2 := cell_of_row w4 _ 2 _ _ _ hrb
    have p3 := cell_of_row w4 _ 3 _ _ _ hra
    have q3 := cell_of_row w4 _ 3 _ _ _ hrb
    clear hra hrb
    go_wp2_with (fail)
    clear p0 p1 p2 p3 q0 q1 q2 q3
    refine (HCB.out _ (HUP.out _ HB4.out)).mono ?_
    rintro e w5 ⟨rfl, hw⟩
    have HB5 := Lib.hid (HB4.out.trans (hw.mono HB4.out.size))
    clear hw
    have hra := (HBX.out w5 HB5.out).1
    have hrb := (HBX.out w5 HB5.out).2
    have p0 := cell_of_row w5 _ 0 _ _ _ hra
    have q0 := cell_of_row w5 _ 0 _ _ _ hrb
    have p1 := cell_of_row w5 _ 1 _ _ _ hra
    have q1 := cell_of_row w5 _ 1 _ _ _ hrb
    have p2 := cell_of_row w5 _ 2 _ _ _ hra
    have q2 := cell_of_row w5 _ 2 _ _ _ hrb
    have p3 := cell_of_row w5 _ 3 _ _ _ hra
    have q3 := cell_of_row w5 _ 3 _ _ _ hrb
    clear hra hrb
    obtain ⟨wt, hwt⟩ : ∃ wt, w5.alloc (.cells #[.string ⟨pair'.toArray⟩, .int .i64 serial', .slice A' tree'.length c', .slice B' stamps'.length d'] 25) = wt := ⟨_, rfl⟩
    have HWT := Lib.hid hwt
    have HBT := Lib.hid (show Below w0.heap.size w0 wt by rw [← hwt]; exact HB5.out.alloc HB5.out.size _)
    have hrt := (show wt.heap[w5.heap.size]? = some (.cells #[.string ⟨pair'.toArray⟩, .int .i64 serial', .slice A' tree'.length c', .slice B' stamps'.length d'] 25 (0, 0)) by rw [← hwt]; exact heap_alloc_new _ _)
    have HRT := Lib.hid hrt
    have HGE := Lib.hid (show w0.heap.size ≤ w5.heap.size from HB5.out.size)
    clear hwt hrt
    go_upto_region 9 with (fail)
    clear p0 p1 p2 p3 q0 q1 q2 q3
    rw [HWT.out]
    generalize w5.heap.size = cb8 at *
    have hra := (HBX.out wt HBT.out).1
    have hrb := (HBX.out wt HBT.out).2
    have p0 := cell_of_row wt _ 0 _ _ _ hra
    have q0 := cell_of_row wt _ 0 _ _ _ hrb
    have p1 := cell_of_row wt _ 1 _ _ _ hra
    have q1 := cell_of_row wt _ 1 _ _ _ hrb
    have p2 := cell_of_row wt _ 2 _ _ _ hra
    have q2 := cell_of_row wt _ 2 _ _ _ hrb
    have p3 := cell_of_row wt _ 3 _ _ _ hra
    have q3 := cell_of_row wt _ 3 _ _ _ hrb
    clear hra hrb
    have t3 := cell_of_row wt _ 3 _ _ _ HRT.out
    have tf := frozen_of_row wt cb8 3 _ _ HRT.out
    have HBS := Lib.hid (HBT.out.setCell (p := ⟨cb8, 3, none⟩) HGE.out (.slice B stamps.length d))
    have HRC : Hid ((wt.setCell ⟨cb8, 3, none⟩ (.slice B stamps.length d)).heap[cb8]? = some (.cells #[.string ⟨pair'.toArray⟩, .int .i64 serial', .slice A' tree'.length c', .slice B stamps.length d] 25 (0, 0))) := Lib.hid (by rw [heap_set HRT.out]; rfl)
    go_upto_region 10 with (fail)
    clear p0 p1 p2 p3 q0 q1 q2 q3
    clear t3 tf
    generalize wt.setCell ⟨cb8, 3, none⟩ (.slice B stamps.length d) = ws at *
    have hra := (HBX.out ws HBS.out).1
    have hrb := (HBX.out ws HBS.out).2
    have p0 := cell_of_row ws _ 0 _ _ _ hra
    have q0 := cell_of_row ws _ 0 _ _ _ hrb
    have p1 := cell_of_row ws _ 1 _ _ _ hra
    have q1 := cell_of_row ws _ 1 _ _ _ hrb
    have p2 := cell_of_row ws _ 2 _ _ _ hra
    have q2 := cell_of_row ws _ 2 _ _ _ hrb
    have p3 := cell_of_row ws _ 3 _ _ _ hra
    have q3 := cell_of_row ws _ 3 _ _ _ hrb
    clear hra hrb
    go_wp2_with (fail)
    clear p0 p1 p2 p3 q0 q1 q2 q3
    refine (HEA.out _ (HUP.out _ HBS.out)).mono ?_
    rintro e wx ⟨rfl, hw⟩
    have HBE := Lib.hid (HBS.out.trans (hw.mono HBS.out.size))
    have hrc := (hw.block _ (lt_of_heap HRC.out)).trans HRC.out
    have r0 := cell_of_row wx _ 0 _ _ _ hrc
    have r1 := cell_of_row wx _ 1 _ _ _ hrc
    have r2 := cell_of_row wx _ 2 _ _ _ hrc
    have r3 := cell_of_row wx _ 3 _ _ _ hrc
    clear hrc
    clear hw
    go_wp2_with (fail)
    clear r0 r1 r2 r3
    refine (HEC.out _ (HUP.out _ HBE.out)).mono ?_
    rintro e wy ⟨rfl, hw⟩
    have HBF := Lib.hid (HBE.out.trans (hw.mono HBE.out.size))
    clear hw
    have hra := (HBX.out wy HBF.out).1
    have hrb := (HBX.out wy HBF.out).2
    have p0 := cell_of_row wy _ 0 _ _ _ hra
    have q0 := cell_of_row wy _ 0 _ _ _ hrb
    have p1 := cell_of_row wy _ 1 _ _ _ hra
    have q1 := cell_of_row wy _ 1 _ _ _ hrb
    have p2 := cell_of_row wy _ 2 _ _ _ hra
    have q2 := cell_of_row wy _ 2 _ _ _ hrb
    have p3 := cell_of_row wy _ 3 _ _ _ hra
    have q3 := cell_of_row wy _ 3 _ _ _ hrb
    clear hra hrb
    go_wp2_with (fail)
    go_ret
    exact ⟨rfl, HUP.out _ HBF.out⟩

open Go.ChangeShapes Go.WideShapes Go.ChangeAt in
set_option maxRecDepth 100000 in
/-- What the walk gives, for every argument. -/
theorem ArchMatches_contract (H : Type) (enc : TypeId × Value → H) (W : World) (base : Nat) (args : Array Value) (ds gs : List (DataW H)) (before : List MemPlace)
    (hval : ∀ (j : Nat) t v, Tryd.f4.params[j]? = some t → args[j]? = some v → Value.okWide Tryd.prog W .any base t v)
    (hW : DataW.Whole enc Tryd.prog Tryd.f4.params.toList Rows.archMatchesSpec.vars false W args.toList ds gs before) (hL : laidMetH Tryd.prog Rows.archMatchesRow.laid W) (hS : W.ShapedOpen Tryd.prog) :
    Calls Tryd.prog 4 args W fun e W' => ∃ v, e = .returned v ∧ Rows.archMatchesSpec.post enc Tryd.prog Tryd.f4 false true false false W args v W' := by
  have hW' := hW
  obtain ⟨p, q, hA0, hV, rfl, hfz, hnd⟩ := hW
  have hA : DataW.TrodAll enc Tryd.prog W 0 (fun _ => true) true Tryd.f4.params.toList args.toList ds p := hA0
  rw [Tryd.params4] at hA hval
  obtain ⟨v0, vs0, d0, ds0, p0, q0, hargs, rfl, rfl, h0, r0⟩ := trodAll_cons hA
  obtain ⟨v1, vs1, d1, ds1, p1, q1, rfl, rfl, rfl, h1, r1⟩ := trodAll_cons r0
  obtain ⟨rfl, rfl, rfl⟩ := trodAll_nil r1
  obtain rfl : args = #[v0, v1] := by cases args; simp_all
  obtain ⟨rfl, rfl⟩ := trodVars_none hV
  obtain ⟨x0, A0, c0, B0, e0, rfl, ka0, ks0, kw0⟩ := open_arc (hval 0 25 v0 rfl rfl) h0
  obtain ⟨x1, A1, c1, B1, e1, rfl, ka1, ks1, kw1⟩ := open_arc (hval 1 25 v1 rfl rfl) h1
  clear hA0
  obtain ⟨m, hm⟩ := laid_of hL hS
  refine (ArchMatches_any x0 x1 A0 c0 B0 e0 A1 c1 B1 e1 m W hm ka0 ka1 ks0 ks1).mono ?_
  exact fun e W' ⟨he, hb⟩ => ⟨_, he, law_post rfl hW' rfl (by kernel_rfl) Tryd.underlying4 (by kernel_rfl) laidOut hb⟩

open Go.ChangeShapes Go.WideShapes Go.ChangeAt in
theorem ArchMatches_met (os : Os) : laidMet Tryd.prog Rows.archMatchesRow.laid ((laidWorld os).forCall (fun _ _ => 0) ⟨#[], #[.agg #[.string ⟨#[]⟩, .int .i64 0, .slice none 0 0, .slice none 0 0], .agg #[.string ⟨#[]⟩, .int .i64 0, .slice none 0 0, .slice none 0 0]], []⟩).memory :=
  laidMet_of_run' 8 (by kernel_rfl) (by kernel_rfl)
open Go.ChangeShapes Go.WideShapes Go.ChangeAt in
theorem ArchMatches_reads (os : Os) {H : Type} (enc : TypeId × Value → H) : ∃ places, DataW.whole enc Tryd.prog ((laidWorld os).forCall (fun _ _ => 0) ⟨#[], #[.agg #[.string ⟨#[]⟩, .int .i64 0, .slice none 0 0, .slice none 0 0], .agg #[.string ⟨#[]⟩, .int .i64 0, .slice none 0 0, .slice none 0 0]], []⟩).memory Tryd.f4.params.toList Rows.archMatchesSpec.vars false #[.agg #[.string ⟨#[]⟩, .int .i64 0, .slice none 0 0, .slice none 0 0], .agg #[.string ⟨#[]⟩, .int .i64 0, .slice none 0 0, .slice none 0 0]].toList 8 = some ([.agg [.lit (.string []), .lit (.int .i64 0), .nil, .nil], .agg [.lit (.string []), .lit (.int .i64 0), .nil, .nil]], [], places) :=
  ⟨[], by kernel_rfl⟩

open Go.ChangeShapes Go.WideShapes Go.ChangeAt in
set_option maxRecDepth 100000 in
theorem ArchMatches_lifted (os : Os) (started : os.Started) (H : Type) (enc : TypeId × Value → H) (F : Stop.Interp) :
    ReturnsInHanded {} Tryd.checked os 4 .any ((OpenSpec.ofChange Rows.archMatchesSpec).preRow enc Tryd.prog Tryd.f4 Rows.archMatchesRow.domain false Rows.archMatchesRow.laid) (((OpenSpec.ofChange Rows.archMatchesSpec).at F).post enc Tryd.prog Tryd.f4 false true false false) := by
  obtain ⟨places, hx⟩ := ArchMatches_reads os enc
  refine returnsInHanded_of_row (C := Tryd.checked) (s := OpenSpec.ofChange Rows.archMatchesSpec) own started (by kernel_rfl) Tryd.func4
    (witness_row_at (enc := enc) (C := Tryd.checked) false (laidWorld os) #[.agg #[.string ⟨#[]⟩, .int .i64 0, .slice none 0 0, .slice none 0 0], .agg #[.string ⟨#[]⟩, .int .i64 0, .slice none 0 0, .slice none 0 0]] rfl (by kernel_rfl) (by kernel_rfl) (by kernel_rfl)
      (OpenSpec.preRow_of_cond 8 hx (by kernel_rfl) (fun k hk => by cases hk) (by kernel_rfl) (ArchMatches_met os))) ?_
  intro W base args ds gs before hval hW _ hcond _ hL hS _
  exact ArchMatches_contract H enc W base args ds gs before hval hW hL hS

theorem ArchMatches_said : Rows.ArchMatchesSaid :=
  OpenClaim.holds_of_cond 4 Tryd.f4 rfl rfl rfl rfl rfl rfl rfl ⟨rfl, rfl, rfl, rfl, rfl⟩ rfl rfl rfl rfl rfl (by kernel_rfl) Tryd.func4 (by kernel_rfl)
    (of_decide_eq_true (by kernel_rfl)) (by unfold Func.isWrapper; first | (rw [if_pos (by decide +kernel)]; kernel_rfl) | (rw [if_neg (by decide +kernel)]; exact ⟨rfl, rfl⟩))
    (fun os started H enc _ F => by rw [OpenClaim.pre_eq_preRow]; exact ArchMatches_lifted os started H enc F)

theorem ArchMatches_holds : Rows.ArchMatchesCardSaid :=
  Claim7.holds_tied_plain_at .later [] _ _ _ _ ArchMatches_said (fun _ h => by cases h) (by kernel_rfl) (fun _ h => by cases h) archMatches_row_tie rfl ⟨rfl, rfl⟩ (by kernel_rfl) rfl
    (card_plain (f0 := 4) (fn0 := Tryd.f4) (by kernel_rfl) Tryd.func4 (by kernel_rfl) (by kernel_rfl)) (by kernel_rfl)
end Go.Proofs.YtjajoiahgfafgaaDoor
end
