/- Texts joined: ArchR2. -/
import Derived.Test.YtjajoiahgfafgaaGreatDoorBArchWrites8
import Derived.Test.YtjajoiahgfafgaaGreatDoorBArchWrites11
import Derived.Test.YtjajoiahgfafgaaGreatDoorBCodeBaseC2
import Derived.Test.YtjajoiahgfafgaaGreatDoorBArchWrites9
import Derived.Test.YtjajoiahgfafgaaGreatDoorBArchWrites4
import Derived.Deep.RegionHeld3
set_option linter.unusedSimpArgs false
set_option linter.unusedVariables false

/- The document's Check, Match, Encode of archives. -/
section
set_option linter.unusedVariables false
namespace Go.Proofs.YtjajoiahgfafgaaGreatDoor
open Go.RowKit Plain

/-- the paths are what a machine can take apart -/
def Pth (a : Arc) : Prop := ∀ n ∈ a.tree, n.path.length ≤ 8796093022200
theorem info_stpS : (Tryz.prog.info? 55).map (·.size) = some 3 := by kernel_rfl
theorem set_row3 {w : World} {g : Nat} {a b c a' b' c' : Value} {t : TypeId} (h : w.heap[g]? = some (.cells #[a, b, c] t (0, 0))) :
    (((w.setCell ⟨g, 0, none⟩ a').setCell ⟨g, 1, none⟩ b').setCell ⟨g, 2, none⟩ c').heap[g]? = some (.cells #[a', b', c'] t (0, 0)) := by
  rw [heap_set (heap_set (heap_set h 0 a') 1 b') 2 c']; rfl
theorem below_row3 {B g : Nat} {w0 w : World} {a b c : Value} (h : Below B w0 w) (hg : B ≤ g) : Below B w0 (((w.setCell ⟨g, 0, none⟩ a).setCell ⟨g, 1, none⟩ b).setCell ⟨g, 2, none⟩ c) :=
  ((h.setCell (p := ⟨g, 0, none⟩) hg a).setCell (p := ⟨g, 1, none⟩) hg b).setCell (p := ⟨g, 2, none⟩) hg c
theorem row4_far {w : World} {g x : Nat} {a b c d : Value} (h : x ≠ g) : ((((w.setCell ⟨g, 0, none⟩ a).setCell ⟨g, 1, none⟩ b).setCell ⟨g, 2, none⟩ c).setCell ⟨g, 3, none⟩ d).heap[x]? = w.heap[x]? := by
  rw [heap_set_ne h, heap_set_ne h, heap_set_ne h, heap_set_ne h]
theorem row3_far {w : World} {g x : Nat} {a b c : Value} (h : x ≠ g) : (((w.setCell ⟨g, 0, none⟩ a).setCell ⟨g, 1, none⟩ b).setCell ⟨g, 2, none⟩ c).heap[x]? = w.heap[x]? := by
  rw [heap_set_ne h, heap_set_ne h, heap_set_ne h]
theorem neg_lt (n : Int) : decide (0 ≤ n) = !decide (n < 0) := by rw [Bool.eq_iff_iff]; simp

set_option maxHeartbeats 2000000 in
set_option maxRecDepth 100000 in
theorem rarchk_any (a : Arc) (A : Option Addr) (c : Nat) (B : Option Addr) (d : Nat) (w : World) (hA : ArAt a A c B d w) (hp : Pth a) :
    Calls Tryz.prog 14 #[.agg (arV a A c B d).toArray] w (Ret w (.int .i64 (okA (checkA a)))) := by
  have HT := Lib.hid (fun W (h : Below w.heap.size w W) => rbare_any a.tree A c W (hA.rows.below h) hA.capN hA.lenN (fun n hn => ⟨hp n hn, (hA.txt n hn).2⟩))
  have HST := Lib.hid (fun W (h : Below w.heap.size w W) => hA.stps.below h)
  have hpl := hA.pr
  have hln := hA.lenN
  have hls := hA.lenS
  obtain ⟨w1, hw1⟩ : ∃ w1, w.alloc (.cells (arV a A c B d).toArray 26) = w1 := ⟨_, rfl⟩
  have HW1 := Lib.hid hw1
  have HB1 := Lib.hid (show Below w.heap.size w w1 by rw [← hw1]; exact (Below.refl w.heap.size w).alloc (Nat.le_refl _) _)
  have HRA := Lib.hid (show w1.heap[w.heap.size]? = some (.cells (arV a A c B d).toArray 26 (0, 0)) by rw [← hw1]; exact heap_alloc_new _ _)
  clear hA hp hw1
  obtain ⟨pair, serial, tree, stamps⟩ := a
  unfold checkA arV at *
  simp only at hpl hln hls HT HST HW1 HRA ⊢
  obtain ⟨res, hres⟩ : ∃ r, stamps.all stampOK = r := ⟨_, rfl⟩
  have HRES : Hid ((stamps.drop 0).all stampOK = res) := Lib.hid hres
  rw [hres]
  clear hres
  generalize isBareT tree = bt at *
  have HE0 : Hid (pair.isEmpty = decide ((pair.length : Int) < 1)) := Lib.hid (by cases pair with | nil => rfl | cons x r => simp; omega)
  have HE1 : Hid (decide (pair.length ≤ 64) = !decide ((64 : Int) < pair.length)) := Lib.hid (by rw [Bool.eq_iff_iff]; simp; omega)
  have HE3 : Hid ((stamps.length == tree.length) = !((stamps.length : Int) != (tree.length : Int))) := Lib.hid (by rw [Bool.eq_iff_iff]; simp; omega)
  rw [HE0.out, HE1.out, neg_lt, HE3.out]
  have p0 := cell_of_row w1 _ 0 _ _ _ HRA.out
  have p1 := cell_of_row w1 _ 1 _ _ _ HRA.out
  have p2 := cell_of_row w1 _ 2 _ _ _ HRA.out
  have p3 := cell_of_row w1 _ 3 _ _ _ HRA.out
  clear HE0 HE1 HE3
  cases h0 : decide ((pair.length : Int) < 1) with
  | true =>
    go_enter Tryz.func14, Tryz.ntmps14
    go_upto_region 1 with (fail)
    rw [HW1.out]
    go_wp2_with (fail)
    go_ret
    exact ⟨rfl, HB1.out⟩
  | false =>
  cases h1 : decide ((64 : Int) < pair.length) with
  | true =>
    go_enter Tryz.func14, Tryz.ntmps14
    go_upto_region 1 with (fail)
    rw [HW1.out]
    go_wp2_with (fail)
    go_ret
    exact ⟨rfl, HB1.out⟩
  | false =>
  cases h2 : decide (serial < 0) with
  | true =>
    go_enter Tryz.func14, Tryz.ntmps14
    go_upto_region 1 with (fail)
    rw [HW1.out]
    go_wp2_with (fail)
    go_ret
    exact ⟨rfl, HB1.out⟩
  | false =>
  have HRB := Lib.hid (show ∀ W, Below w1.heap.size w1 W → W.heap[w.heap.size]? = some (.cells #[.string ⟨pair.toArray⟩, .int .i64 serial, .slice A tree.length c, .slice B stamps.length d] 26 (0, 0)) from fun W h => (h.block _ (lt_of_heap HRA.out)).trans HRA.out)
  cases bt with
  | false =>
    go_enter Tryz.func14, Tryz.ntmps14
    go_upto_region 1 with (fail)
    rw [HW1.out]
    go_wp2_with (fail)
    refine (HT.out _ HB1.out).mono ?_
    rintro e w2 ⟨rfl, hw2⟩
    go_wp2_with (fail)
    go_ret
    exact ⟨rfl, HB1.out.trans (hw2.mono HB1.out.size)⟩
  | true =>
  cases h3 : ((stamps.length : Int) != (tree.length : Int)) with
  | true =>
    go_enter Tryz.func14, Tryz.ntmps14
    go_upto_region 1 with (fail)
    rw [HW1.out]
    go_wp2_with (fail)
    refine (HT.out _ HB1.out).mono ?_
    rintro e w2 ⟨rfl, hw2⟩
    have k2 := cell_of_row w2 _ 2 _ _ _ (HRB.out _ hw2)
    have k3 := cell_of_row w2 _ 3 _ _ _ (HRB.out _ hw2)
    go_wp2_with (fail)
    go_ret
    exact ⟨rfl, HB1.out.trans (hw2.mono HB1.out.size)⟩
  | false =>
    go_enter Tryz.func14, Tryz.ntmps14
    go_upto_region 1 with (fail)
    rw [HW1.out]
    go_wp2_with (fail)
    refine (HT.out _ HB1.out).mono ?_
    rintro e w2 ⟨rfl, hw2⟩
    have k2 := cell_of_row w2 _ 2 _ _ _ (HRB.out _ hw2)
    have k3 := cell_of_row w2 _ 3 _ _ _ (HRB.out _ hw2)
    have HB2 := Lib.hid (HB1.out.trans (hw2.mono HB1.out.size))
    clear hw2 p0 p1 p2 p3
    go_wp2_with (fail)
    go_loopw [3] (fun t3 W => ∃ i : Nat, i ≤ stamps.length ∧ t3 = .int .i64 i ∧ Hid ((stamps.drop i).all stampOK = res) ∧ W = w2) (fun t3 _ => stamps.length - (intOf t3).toNat)
    case atStart => exact ⟨0, by omega, rfl, HRES, rfl⟩
    case round =>
      clear HRES
      obtain ⟨i, hi, rfl, HE, rfl⟩ := hrel
      have i0 : (0 : Int) ≤ i := by omega
      by_cases hlt : i < stamps.length
      · have i1 : (i : Int) < stamps.length := by omega
        have e1 : IntKind.i64.wrap ((i : Int) + 1) = (i : Int) + 1 := IntWalk.i64_in _ (by omega)
        have hat := all_atN (p := stampOK) hlt
        rw [HE.out] at hat
        obtain ⟨bd, rfl, s0, s1, s2⟩ := stp_cells (HST.out _ HB2.out) hlt
        generalize stamps.getD i default = st at *
        obtain ⟨x, y, z⟩ := st
        simp only at s0 s1 s2
        unfold stampOK at hat
        simp only [neg_lt] at hat
        obtain ⟨nx, hnx⟩ : ∃ b, (stamps.drop (i + 1)).all stampOK = b := ⟨_, rfl⟩
        have HNX := Lib.hid hnx
        have HAT : Hid (res = (((!decide (x < 0)) && (!decide (y < 0)) && (!decide (z < 0))) && nx)) := Lib.hid (by rw [hat, ← hnx]; unfold stampOK; simp only [neg_lt])
        clear hat hnx
        cases h4 : decide (x < 0) with
        | true =>
          have HF := Lib.hid (show res = false by rw [HAT.out, h4]; rfl)
          go_wp2_with (fail)
          go_ret
          exact ⟨by rw [HF.out]; rfl, HB2.out⟩
        | false =>
        cases h5 : decide (y < 0) with
        | true =>
          have HF := Lib.hid (show res = false by rw [HAT.out, h4, h5]; rfl)
          go_wp2_with (fail)
          go_ret
          exact ⟨by rw [HF.out]; rfl, HB2.out⟩
        | false =>
        cases h6 : decide (z < 0) with
        | true =>
          have HF := Lib.hid (show res = false by rw [HAT.out, h4, h5, h6]; rfl)
          go_wp2_with (fail)
          go_ret
          exact ⟨by rw [HF.out]; rfl, HB2.out⟩
        | false =>
          have HF := Lib.hid (show (stamps.drop (i + 1)).all stampOK = res by rw [HNX.out, HAT.out, h4, h5, h6]; rfl)
          go_wp2_with (fail)
          go_roundw
          case rel => exact ⟨i + 1, by omega, by go_num, HF, by first | trivial | rfl⟩
          case measure => simp [intOf]; omega
      · obtain rfl : i = stamps.length := by omega
        have i1 : decide ((stamps.length : Int) < (stamps.length : Int)) = false := by rw [decide_eq_false_iff_not]; omega
        have HF := Lib.hid (show res = true by rw [← HE.out]; simp)
        go_wp2_with (fail)
        go_ret
        exact ⟨by rw [HF.out]; rfl, HB2.out⟩

set_option maxHeartbeats 1000000 in
set_option maxRecDepth 100000 in
theorem rmatch_any (a b : Arc) (A : Option Addr) (c : Nat) (B : Option Addr) (d : Nat) (A' : Option Addr) (c' : Nat) (B' : Option Addr) (d' : Nat) (w : World) (hA : ArAt a A c B d w) (hB : ArAt b A' c' B' d' w) (hpa : Pth a) (hpb : Pth b) :
    Calls Tryz.prog 16 #[.agg (arV a A c B d).toArray, .agg (arV b A' c' B' d').toArray] w (Ret w (.bool (checkA a && checkA b && (a.pair == b.pair) && (a.serial == b.serial) && (a.tree == b.tree)))) := by
  have HCA := Lib.hid (fun W (h : Below w.heap.size w W) => rarchk_any a A c B d W (hA.below h) hpa)
  have HCB := Lib.hid (fun W (h : Below w.heap.size w W) => rarchk_any b A' c' B' d' W (hB.below h) hpb)
  have HSM := Lib.hid (fun W (h : Below w.heap.size w W) => rsame_any a.tree b.tree A A' c c' W (hA.rows.below h) (hB.rows.below h) hA.lenN hB.lenN)
  obtain ⟨w0, hw0⟩ : ∃ w0, (w.alloc (.cells (arV a A c B d).toArray 26)).alloc (.cells (arV b A' c' B' d').toArray 26) = w0 := ⟨_, rfl⟩
  have HB0 := Lib.hid (show Below w.heap.size w w0 by rw [← hw0]; exact ((Below.refl w.heap.size w).alloc (Nat.le_refl _) _).alloc (by simp) _)
  have HS0 := Lib.hid (show w0.heap.size = w.heap.size + 2 by rw [← hw0]; simp)
  have HRA := Lib.hid (show w0.heap[w.heap.size]? = some (.cells (arV a A c B d).toArray 26 (0, 0)) by rw [← hw0, Below.heap_alloc _ _ _ (by simp)]; exact heap_alloc_new _ _)
  have HRB := Lib.hid (show w0.heap[w.heap.size + 1]? = some (.cells (arV b A' c' B' d').toArray 26 (0, 0)) by have := heap_alloc_new (w.alloc (.cells (arV a A c B d).toArray 26)) (.cells (arV b A' c' B' d').toArray 26); rw [← hw0]; simpa using this)
  have HW0 := Lib.hid hw0
  clear hA hB hw0 hpa hpb
  generalize checkA a = ca at *
  generalize checkA b = cb at *
  obtain ⟨pair, serial, tree, stamps⟩ := a
  obtain ⟨pair', serial', tree', stamps'⟩ := b
  unfold arV at *
  simp only at HCA HCB HSM HRA HRB HW0 ⊢
  generalize (tree == tree') = bt at *
  cases ca with
  | false =>
    have H1 : Hid (∀ W, Below w.heap.size w W → Calls Tryz.prog 14 #[.agg #[.string ⟨pair.toArray⟩, .int .i64 serial, .slice A tree.length c, .slice B stamps.length d]] W (Ret W (.int .i64 90))) := HCA
    clear HCA
    simp only [Bool.false_and]
    go_enter Tryz.func16, Tryz.ntmps16
    go_upto_region 1 with (fail)
    rw [HW0.out]
    have ta0 := cell_of_row w0 _ 0 _ _ _ HRA.out; have ta1 := cell_of_row w0 _ 1 _ _ _ HRA.out; have ta2 := cell_of_row w0 _ 2 _ _ _ HRA.out; have ta3 := cell_of_row w0 _ 3 _ _ _ HRA.out
    go_wp2_with (go_at_call 14; refine (H1.out _ HB0.out).mono ?_; rintro e w1 ⟨rfl, hw1⟩)
    go_ret
    exact ⟨rfl, HB0.out.trans (hw1.mono HB0.out.size)⟩
  | true =>
  have H1 : Hid (∀ W, Below w.heap.size w W → Calls Tryz.prog 14 #[.agg #[.string ⟨pair.toArray⟩, .int .i64 serial, .slice A tree.length c, .slice B stamps.length d]] W (Ret W (.int .i64 0))) := HCA
  clear HCA
  cases cb with
  | false =>
    have H2 : Hid (∀ W, Below w.heap.size w W → Calls Tryz.prog 14 #[.agg #[.string ⟨pair'.toArray⟩, .int .i64 serial', .slice A' tree'.length c', .slice B' stamps'.length d']] W (Ret W (.int .i64 90))) := HCB
    clear HCB
    simp only [Bool.false_and, Bool.and_false]
    go_enter Tryz.func16, Tryz.ntmps16
    go_upto_region 1 with (fail)
    rw [HW0.out]
    have ta0 := cell_of_row w0 _ 0 _ _ _ HRA.out; have ta1 := cell_of_row w0 _ 1 _ _ _ HRA.out; have ta2 := cell_of_row w0 _ 2 _ _ _ HRA.out; have ta3 := cell_of_row w0 _ 3 _ _ _ HRA.out
    go_wp2_with (fail)
    refine (H1.out _ HB0.out).mono ?_
    rintro e w1 ⟨rfl, hw1⟩
    have HB1 := Lib.hid (HB0.out.trans (hw1.mono HB0.out.size))
    have hra := (hw1.block w.heap.size (by have := HS0.out; omega)).trans HRA.out
    have hrb := (hw1.block (w.heap.size + 1) (by have := HS0.out; omega)).trans HRB.out
    have p0 := cell_of_row w1 _ 0 _ _ _ hra
    have q0 := cell_of_row w1 _ 0 _ _ _ hrb
    have p1 := cell_of_row w1 _ 1 _ _ _ hra
    have q1 := cell_of_row w1 _ 1 _ _ _ hrb
    have p2 := cell_of_row w1 _ 2 _ _ _ hra
    have q2 := cell_of_row w1 _ 2 _ _ _ hrb
    have p3 := cell_of_row w1 _ 3 _ _ _ hra
    have q3 := cell_of_row w1 _ 3 _ _ _ hrb
    have HRA2 := Lib.hid hra
    have HRB2 := Lib.hid hrb
    clear hra hrb
    go_wp2_with (fail)
    refine (H2.out _ HB1.out).mono ?_
    rintro e w2 ⟨rfl, hw2⟩
    have HB2 := Lib.hid (HB1.out.trans (hw2.mono HB1.out.size))
    have hra2 := (hw2.block w.heap.size (by have := hw1.size; have := HS0.out; omega)).trans HRA2.out
    have hrb2 := (hw2.block (w.heap.size + 1) (by have := hw1.size; have := HS0.out; omega)).trans HRB2.out
    have r0 := cell_of_row w2 _ 0 _ _ _ hra2
    have s0 := cell_of_row w2 _ 0 _ _ _ hrb2
    have r1 := cell_of_row w2 _ 1 _ _ _ hra2
    have s1 := cell_of_row w2 _ 1 _ _ _ hrb2
    have r2 := cell_of_row w2 _ 2 _ _ _ hra2
    have s2 := cell_of_row w2 _ 2 _ _ _ hrb2
    have r3 := cell_of_row w2 _ 3 _ _ _ hra2
    have s3 := cell_of_row w2 _ 3 _ _ _ hrb2
    clear hra2 hrb2
    go_wp2_with (fail)
    go_ret
    exact ⟨rfl, HB2.out⟩
  | true =>
  have H2 : Hid (∀ W, Below w.heap.size w W → Calls Tryz.prog 14 #[.agg #[.string ⟨pair'.toArray⟩, .int .i64 serial', .slice A' tree'.length c', .slice B' stamps'.length d']] W (Ret W (.int .i64 0))) := HCB
  clear HCB
  simp only [Bool.and_true, Bool.true_and]
  cases hpp : (pair == pair') with
  | false =>
    simp only [Bool.false_and]
    go_enter Tryz.func16, Tryz.ntmps16
    go_upto_region 1 with (fail)
    rw [HW0.out]
    have ta0 := cell_of_row w0 _ 0 _ _ _ HRA.out; have ta1 := cell_of_row w0 _ 1 _ _ _ HRA.out; have ta2 := cell_of_row w0 _ 2 _ _ _ HRA.out; have ta3 := cell_of_row w0 _ 3 _ _ _ HRA.out
    go_wp2_with (fail)
    refine (H1.out _ HB0.out).mono ?_
    rintro e w1 ⟨rfl, hw1⟩
    have HB1 := Lib.hid (HB0.out.trans (hw1.mono HB0.out.size))
    have hra := (hw1.block w.heap.size (by have := HS0.out; omega)).trans HRA.out
    have hrb := (hw1.block (w.heap.size + 1) (by have := HS0.out; omega)).trans HRB.out
    have p0 := cell_of_row w1 _ 0 _ _ _ hra
    have q0 := cell_of_row w1 _ 0 _ _ _ hrb
    have p1 := cell_of_row w1 _ 1 _ _ _ hra
    have q1 := cell_of_row w1 _ 1 _ _ _ hrb
    have p2 := cell_of_row w1 _ 2 _ _ _ hra
    have q2 := cell_of_row w1 _ 2 _ _ _ hrb
    have p3 := cell_of_row w1 _ 3 _ _ _ hra
    have q3 := cell_of_row w1 _ 3 _ _ _ hrb
    have HRA2 := Lib.hid hra
    have HRB2 := Lib.hid hrb
    clear hra hrb
    go_wp2_with (fail)
    refine (H2.out _ HB1.out).mono ?_
    rintro e w2 ⟨rfl, hw2⟩
    have HB2 := Lib.hid (HB1.out.trans (hw2.mono HB1.out.size))
    have hra2 := (hw2.block w.heap.size (by have := hw1.size; have := HS0.out; omega)).trans HRA2.out
    have hrb2 := (hw2.block (w.heap.size + 1) (by have := hw1.size; have := HS0.out; omega)).trans HRB2.out
    have r0 := cell_of_row w2 _ 0 _ _ _ hra2
    have s0 := cell_of_row w2 _ 0 _ _ _ hrb2
    have r1 := cell_of_row w2 _ 1 _ _ _ hra2
    have s1 := cell_of_row w2 _ 1 _ _ _ hrb2
    have r2 := cell_of_row w2 _ 2 _ _ _ hra2
    have s2 := cell_of_row w2 _ 2 _ _ _ hrb2
    have r3 := cell_of_row w2 _ 3 _ _ _ hra2
    have s3 := cell_of_row w2 _ 3 _ _ _ hrb2
    clear hra2 hrb2
    go_wp2_with (fail)
    go_ret
    exact ⟨rfl, HB2.out⟩
  | true =>
  cases hss : (serial == serial') with
  | false =>
    simp only [Bool.false_and, Bool.and_false]
    go_enter Tryz.func16, Tryz.ntmps16
    go_upto_region 1 with (fail)
    rw [HW0.out]
    have ta0 := cell_of_row w0 _ 0 _ _ _ HRA.out; have ta1 := cell_of_row w0 _ 1 _ _ _ HRA.out; have ta2 := cell_of_row w0 _ 2 _ _ _ HRA.out; have ta3 := cell_of_row w0 _ 3 _ _ _ HRA.out
    go_wp2_with (fail)
    refine (H1.out _ HB0.out).mono ?_
    rintro e w1 ⟨rfl, hw1⟩
    have HB1 := Lib.hid (HB0.out.trans (hw1.mono HB0.out.size))
    have hra := (hw1.block w.heap.size (by have := HS0.out; omega)).trans HRA.out
    have hrb := (hw1.block (w.heap.size + 1) (by have := HS0.out; omega)).trans HRB.out
    have p0 := cell_of_row w1 _ 0 _ _ _ hra
    have q0 := cell_of_row w1 _ 0 _ _ _ hrb
    have p1 := cell_of_row w1 _ 1 _ _ _ hra
    have q1 := cell_of_row w1 _ 1 _ _ _ hrb
    have p2 := cell_of_row w1 _ 2 _ _ _ hra
    have q2 := cell_of_row w1 _ 2 _ _ _ hrb
    have p3 := cell_of_row w1 _ 3 _ _ _ hra
    have q3 := cell_of_row w1 _ 3 _ _ _ hrb
    have HRA2 := Lib.hid hra
    have HRB2 := Lib.hid hrb
    clear hra hrb
    go_wp2_with (fail)
    refine (H2.out _ HB1.out).mono ?_
    rintro e w2 ⟨rfl, hw2⟩
    have HB2 := Lib.hid (HB1.out.trans (hw2.mono HB1.out.size))
    have hra2 := (hw2.block w.heap.size (by have := hw1.size; have := HS0.out; omega)).trans HRA2.out
    have hrb2 := (hw2.block (w.heap.size + 1) (by have := hw1.size; have := HS0.out; omega)).trans HRB2.out
    have r0 := cell_of_row w2 _ 0 _ _ _ hra2
    have s0 := cell_of_row w2 _ 0 _ _ _ hrb2
    have r1 := cell_of_row w2 _ 1 _ _ _ hra2
    have s1 := cell_of_row w2 _ 1 _ _ _ hrb2
    have r2 := cell_of_row w2 _ 2 _ _ _ hra2
    have s2 := cell_of_row w2 _ 2 _ _ _ hrb2
    have r3 := cell_of_row w2 _ 3 _ _ _ hra2
    have s3 := cell_of_row w2 _ 3 _ _ _ hrb2
    clear hra2 hrb2
    go_wp2_with (fail)
    go_ret
    exact ⟨rfl, HB2.out⟩
  | true =>
    simp only [Bool.true_and]
    go_enter Tryz.func16, Tryz.ntmps16
    go_upto_region 1 with (fail)
    rw [HW0.out]
    have ta0 := cell_of_row w0 _ 0 _ _ _ HRA.out; have ta1 := cell_of_row w0 _ 1 _ _ _ HRA.out; have ta2 := cell_of_row w0 _ 2 _ _ _ HRA.out; have ta3 := cell_of_row w0 _ 3 _ _ _ HRA.out
    go_wp2_with (fail)
    refine (H1.out _ HB0.out).mono ?_
    rintro e w1 ⟨rfl, hw1⟩
    have HB1 := Lib.hid (HB0.out.trans (hw1.mono HB0.out.size))
    have hra := (hw1.block w.heap.size (by have := HS0.out; omega)).trans HRA.out
    have hrb := (hw1.block (w.heap.size + 1) (by have := HS0.out; omega)).trans HRB.out
    have p0 := cell_of_row w1 _ 0 _ _ _ hra
    have q0 := cell_of_row w1 _ 0 _ _ _ hrb
    have p1 := cell_of_row w1 _ 1 _ _ _ hra
    have q1 := cell_of_row w1 _ 1 _ _ _ hrb
    have p2 := cell_of_row w1 _ 2 _ _ _ hra
    have q2 := cell_of_row w1 _ 2 _ _ _ hrb
    have p3 := cell_of_row w1 _ 3 _ _ _ hra
    have q3 := cell_of_row w1 _ 3 _ _ _ hrb
    have HRA2 := Lib.hid hra
    have HRB2 := Lib.hid hrb
    clear hra hrb
    go_wp2_with (fail)
    refine (H2.out _ HB1.out).mono ?_
    rintro e w2 ⟨rfl, hw2⟩
    have HB2 := Lib.hid (HB1.out.trans (hw2.mono HB1.out.size))
    have hra2 := (hw2.block w.heap.size (by have := hw1.size; have := HS0.out; omega)).trans HRA2.out
    have hrb2 := (hw2.block (w.heap.size + 1) (by have := hw1.size; have := HS0.out; omega)).trans HRB2.out
    have r0 := cell_of_row w2 _ 0 _ _ _ hra2
    have s0 := cell_of_row w2 _ 0 _ _ _ hrb2
    have r1 := cell_of_row w2 _ 1 _ _ _ hra2
    have s1 := cell_of_row w2 _ 1 _ _ _ hrb2
    have r2 := cell_of_row w2 _ 2 _ _ _ hra2
    have s2 := cell_of_row w2 _ 2 _ _ _ hrb2
    have r3 := cell_of_row w2 _ 3 _ _ _ hra2
    have s3 := cell_of_row w2 _ 3 _ _ _ hrb2
    clear hra2 hrb2
    go_wp2_with (fail)
    refine (HSM.out _ HB2.out).mono ?_
    rintro e w3 ⟨rfl, hw3⟩
    go_wp2_with (fail)
    go_ret
    exact ⟨rfl, HB2.out.trans (hw3.mono HB2.out.size)⟩

theorem rnum_int (n : Int) (w : World) (h0 : 0 ≤ n) (h : n < 9223372036854775808) : Calls Tryz.prog 40 #[.int .i64 n] w (Ret w (.string ⟨(numB n.toNat).toArray⟩)) := by
  obtain ⟨k, rfl⟩ := Int.eq_ofNat_of_zero_le h0
  exact RefNum_any k w (by omega)

set_option maxHeartbeats 4000000 in
set_option maxRecDepth 100000 in
theorem rencode_any (a : Arc) (A : Option Addr) (c : Nat) (B : Option Addr) (d : Nat) (w : World) (hA : ArAt a A c B d w) (hsm : Small a) (hp : Pth a) :
    Calls Tryz.prog 12 #[.agg (arV a A c B d).toArray] w (Ret w (.tuple #[.string ⟨(encodeA a).1.toArray⟩, .int .i64 (encodeA a).2])) := by
  have HCK := Lib.hid (fun W (h : Below w.heap.size w W) => rarchk_any a A c B d W (hA.below h) hp)
  obtain ⟨w1, hw1⟩ : ∃ w1, w.alloc (.cells (arV a A c B d).toArray 26) = w1 := ⟨_, rfl⟩
  have HW1 := Lib.hid hw1
  have HB1 := Lib.hid (show Below w.heap.size w w1 by rw [← hw1]; exact (Below.refl w.heap.size w).alloc (Nat.le_refl _) _)
  have HRA := Lib.hid (show w1.heap[w.heap.size]? = some (.cells (arV a A c B d).toArray 26 (0, 0)) by rw [← hw1]; exact heap_alloc_new _ _)
  clear hw1 hp
  cases hck : checkA a with
  | false =>
    have HEN := Lib.hid (show encodeA a = ([], 90) by unfold encodeA; rw [hck]; rfl)
    rw [HEN.out]
    rw [hck] at HCK
    have H1 : Hid (∀ W, Below w.heap.size w W → Calls Tryz.prog 14 #[.agg (arV a A c B d).toArray] W (Ret W (.int .i64 90))) := HCK
    clear hck HCK hA
    unfold arV at *
    go_enter Tryz.func12, Tryz.ntmps12
    go_upto_region 1 with (fail)
    rw [HW1.out]
    have ta0 := cell_of_row w1 _ 0 _ _ _ HRA.out; have ta1 := cell_of_row w1 _ 1 _ _ _ HRA.out; have ta2 := cell_of_row w1 _ 2 _ _ _ HRA.out; have ta3 := cell_of_row w1 _ 3 _ _ _ HRA.out
    go_wp2_with (fail)
    refine (H1.out _ HB1.out).mono ?_
    rintro e w2 ⟨rfl, hw2⟩
    go_wp2_with (fail)
    go_ret2
    exact ⟨rfl, HB1.out.trans (hw2.mono HB1.out.size)⟩
  | true =>
    have HEN := Lib.hid (show encodeA a = (record (payA a), 0) by unfold encodeA; rw [hck]; rfl)
    rw [HEN.out]
    rw [hck] at HCK
    have H1 : Hid (∀ W, Below w.heap.size w W → Calls Tryz.prog 14 #[.agg (arV a A c B d).toArray] W (Ret W (.int .i64 0))) := HCK
    have HKP := Lib.hid (checkA_parts hck)
    have HFT := Lib.hid (zip_fits hck hsm)
    have HSM := Lib.hid hsm
    have HPK := Lib.hid (fun W => Pack_ref1 (payA a) W (payA_length hck))
    have HPL := Lib.hid (payA_length hck)
    have HAA := Lib.hid (fun W (h : Below w.heap.size w W) => hA.below h)
    have htl := (bare_bounds (checkA_parts hck).2.2.2.1).1
    have HTM := Lib.hid (fun W => RefText_any [104, 97, 119, 115, 101, 114, 32, 49] W (by decide))
    have HTP := Lib.hid (fun W => RefText_any a.pair W (by have := (checkA_parts hck).2.1; omega))
    have HNS := Lib.hid (fun W => rnum_int a.serial W (checkA_parts hck).2.2.1 hsm.1)
    have HNL := Lib.hid (fun W => RefNum_any a.tree.length W (by omega))
    clear hck HCK hA
    have HRB := Lib.hid (show ∀ W, Below w1.heap.size w1 W → W.heap[w.heap.size]? = some (.cells (arV a A c B d).toArray 26 (0, 0)) from fun W h => (h.block _ (lt_of_heap HRA.out)).trans HRA.out)
    have HUP := Lib.hid (show ∀ W, Below w1.heap.size w1 W → Below w.heap.size w W from fun W h => HB1.out.trans (h.mono HB1.out.size))
    have HLB := Lib.hid (lt_of_heap HRA.out)
    unfold arV at *
    have l1 := textB_length [104, 97, 119, 115, 101, 114, 32, 49]
    have l2 := textB_length a.pair
    have l3 := numB_length a.serial.toNat
    have l4 := numB_length a.tree.length
    have l5 := HKP.out.2.1
    simp only [List.length_cons, List.length_nil] at l1
    have HU0 : Hid (textB [104, 97, 119, 115, 101, 114, 32, 49] ++ (textB a.pair ++ (numB a.serial.toNat ++ numB a.tree.length)) = upA a 0) := Lib.hid (by rw [upA_zero]; unfold headB numI magicB; simp only [List.append_assoc])
    generalize textB [104, 97, 119, 115, 101, 114, 32, 49] = m1 at *
    generalize textB a.pair = m2 at *
    generalize numB a.serial.toNat = m3 at *
    generalize numB a.tree.length = m4 at *
    go_enter Tryz.func12, Tryz.ntmps12
    go_upto_region 1 with (fail)
    rw [HW1.out]
    have ta0 := cell_of_row w1 _ 0 _ _ _ HRA.out; have ta1 := cell_of_row w1 _ 1 _ _ _ HRA.out; have ta2 := cell_of_row w1 _ 2 _ _ _ HRA.out; have ta3 := cell_of_row w1 _ 3 _ _ _ HRA.out
    go_wp2_with (fail)
    refine (H1.out _ HB1.out).mono ?_
    rintro e w2 ⟨rfl, hw2⟩
    have HB2 := Lib.hid hw2
    clear ta0 ta1 ta2 ta3 hw2
    have p0 : w2.cell? ⟨w.heap.size, 0, none⟩ = some (.string ⟨a.pair.toArray⟩) := cell_of_row w2 _ 0 _ _ _ (HRB.out _ HB2.out)
    have p1 : w2.cell? ⟨w.heap.size, 1, none⟩ = some (.int .i64 a.serial) := cell_of_row w2 _ 1 _ _ _ (HRB.out _ HB2.out)
    have p2 : w2.cell? ⟨w.heap.size, 2, none⟩ = some (.slice A a.tree.length c) := cell_of_row w2 _ 2 _ _ _ (HRB.out _ HB2.out)
    go_upto_region 3 with (fail)
    refine wp_region_below (by kernel_rfl) (by kernel_rfl) ?_
    iterate 1 (go_big_quiet_step ((intro hW; go_at_call 39; exact Ret.quiet hW (HTM.out _))))
    iterate 4 (first | (go_big_quiet_want; refine quiet_load_cell 9 _ rfl _ rfl _ _ p0 Tryz.underlying9 rfl ?_; simp only [Act.put, List.setIfInBounds_toArray, List.set_cons_succ, List.set_cons_zero]; go_big_quiet_on) | go_big_quiet_step ((intro hW; go_at_call 39; exact Ret.quiet hW (HTP.out _))))
    iterate 4 (first | (go_big_quiet_want; refine quiet_load_cell 3 _ rfl _ rfl _ _ p1 Tryz.underlying3 rfl ?_; simp only [Act.put, List.setIfInBounds_toArray, List.set_cons_succ, List.set_cons_zero]; go_big_quiet_on) | go_big_quiet_step ((intro hW; go_at_call 40; exact Ret.quiet hW (HNS.out _))))
    iterate 6 (first | (go_big_quiet_want; refine quiet_load_cell 23 _ rfl _ rfl _ _ p2 Tryz.underlying23 rfl ?_; simp only [Act.put, List.setIfInBounds_toArray, List.set_cons_succ, List.set_cons_zero]; go_big_quiet_on) | go_big_quiet_step ((intro hW; go_at_call 40; exact Ret.quiet hW (HNL.out _))))
    refine wpQuiet_nil ?_
    intro W3 hW3
    have HB3 := Lib.hid (HB2.out.trans (hW3.mono HB2.out.size))
    clear hW3 p0 p1 p2
    go_wp2_with (fail)
    go_loopw [4, 5] (fun t4 t5 W => ∃ i : Nat, i ≤ a.tree.length ∧ t4 = .string ⟨(upA a i).toArray⟩ ∧ t5 = .int .i64 i ∧ Hid (Below w1.heap.size w1 W)) (fun _ t5 _ => a.tree.length - (intOf t5).toNat)
    case atStart => exact ⟨0, by omega, by rw [HU0.out], rfl, HB3⟩
    case round =>
      clear HB3
      obtain ⟨i, hi, rfl, rfl, HW⟩ := hrel
      have i0 : (0 : Int) ≤ i := by omega
      have p2 : wr.cell? ⟨w.heap.size, 2, none⟩ = some (.slice A a.tree.length c) := cell_of_row wr _ 2 _ _ _ (HRB.out _ HW.out)
      by_cases hlt : i < a.tree.length
      · have i1 : (i : Int) < a.tree.length := by omega
        have e1 : IntKind.i64.wrap ((i : Int) + 1) = (i : Int) + 1 := IntWalk.i64_in _ (by omega)
        have hls : i < a.stamps.length := by have := HKP.out.2.2.2.2.1; omega
        have i2 : (i : Int) < a.stamps.length := by omega
        have p3 : wr.cell? ⟨w.heap.size, 3, none⟩ = some (.slice B a.stamps.length d) := cell_of_row wr _ 3 _ _ _ (HRB.out _ HW.out)
        obtain ⟨ad, rfl, hcn⟩ := nodes_at (HAA.out _ (HUP.out _ HW.out)).rows hlt
        obtain ⟨bd, rfl, hcs⟩ := stps_at (HAA.out _ (HUP.out _ HW.out)).stps hls
        have HNX := Lib.hid (upA_next HKP.out.2.2.2.2.1 hlt)
        have HUL := Lib.hid (Nat.le_trans (upA_le HKP.out.2.2.2.2.1 (i + 1)) HPL.out)
        have hmem : (a.tree.getD i default, a.stamps.getD i default) ∈ a.tree.zip a.stamps := by
          have h1 : i < (a.tree.zip a.stamps).length := by rw [List.length_zip]; omega
          have h2 := List.getElem_mem h1
          rw [List.getElem_zip] at h2
          rw [List.getD_eq_getElem?_getD, List.getElem?_eq_getElem hlt, Option.getD_some, List.getD_eq_getElem?_getD, List.getElem?_eq_getElem hls, Option.getD_some]
          exact h2
        have HF := Lib.hid (HFT.out _ hmem)
        clear hmem
        rw [HNX.out] at HUL
        generalize a.tree.getD i default = nd at *
        generalize a.stamps.getD i default = st at *
        have HCN := Lib.hid (show ∀ j v, (ndV nd)[j]? = some v → wr.cell? ((ad.add (i * 4)).add j) = some v from fun j v h => by rw [add_of_add]; exact hcn j v h)
        have HCS := Lib.hid (show ∀ j v, (stV st)[j]? = some v → wr.cell? ((bd.add (i * 3)).add j) = some v from fun j v h => by rw [add_of_add]; exact hcs j v h)
        clear hcn hcs
        have HQ1 := Lib.hid (fun W => RefText_any nd.path W (by have := HF.out.1; simp only at this; omega))
        have HQ2 := Lib.hid (fun W => rnum_int nd.kind W HF.out.2.2.1.1 HF.out.2.2.1.2)
        have HQ3 := Lib.hid (fun W => rnum_int nd.mode W HF.out.2.2.2.1.1 HF.out.2.2.2.1.2)
        have HQ4 := Lib.hid (fun W => RefText_any nd.data W (by have := HF.out.2.1; simp only at this; omega))
        have HQ5 := Lib.hid (fun W => rnum_int st.ino W HF.out.2.2.2.2.1.1 HF.out.2.2.2.2.1.2)
        have HQ6 := Lib.hid (fun W => rnum_int st.size W HF.out.2.2.2.2.2.1.1 HF.out.2.2.2.2.2.1.2)
        have HQ7 := Lib.hid (fun W => rnum_int st.time W HF.out.2.2.2.2.2.2.1 HF.out.2.2.2.2.2.2.2)
        unfold numI at HNX HUL
        have hul := HUL.out
        simp only [List.append_assoc] at HNX
        simp only [List.length_append] at hul
        generalize textB nd.path = e1' at *
        generalize numB nd.kind.toNat = e2' at *
        generalize numB nd.mode.toNat = e3' at *
        generalize textB nd.data = e4' at *
        generalize numB st.ino.toNat = e5' at *
        generalize numB st.size.toNat = e6' at *
        generalize numB st.time.toNat = e7' at *
        go_upto_region 7 with (fail)
        have HNC := Lib.hid (show ∀ W, Below wr.heap.size wr W → W.cell? (ad.add (i * 4)) = some (.string ⟨nd.path.toArray⟩) ∧ W.cell? ⟨(ad.add (i * 4)).block, (ad.add (i * 4)).off + 1, none⟩ = some (.int .i64 nd.kind) ∧ W.cell? ⟨(ad.add (i * 4)).block, (ad.add (i * 4)).off + 2, none⟩ = some (.string ⟨nd.data.toArray⟩) ∧ W.cell? ⟨(ad.add (i * 4)).block, (ad.add (i * 4)).off + 3, none⟩ = some (.int .i64 nd.mode) from fun W hW => by
          have key : ∀ j u, j ≠ 0 → (ndV nd)[j]? = some u → W.cell? ⟨(ad.add (i * 4)).block, (ad.add (i * 4)).off + j, none⟩ = some u := fun j u hj hu => by
            have h := HCN.out j u hu
            rw [Addr.add, if_neg hj] at h
            exact (hW.cell (World.block_lt_of_cell? _ _ h)).trans h
          have k0 : W.cell? (ad.add (i * 4)) = some (.string ⟨nd.path.toArray⟩) := by
            have h := HCN.out 0 _ rfl
            rw [show (ad.add (i * 4)).add 0 = ad.add (i * 4) by rw [add_of_add, Nat.add_zero]] at h
            exact (hW.cell (World.block_lt_of_cell? _ _ h)).trans h
          exact ⟨k0, key 1 _ (by omega) rfl, key 2 _ (by omega) rfl, key 3 _ (by omega) rfl⟩)
        have HSC := Lib.hid (show ∀ W, Below wr.heap.size wr W → W.cell? (bd.add (i * 3)) = some (.int .i64 st.ino) ∧ W.cell? ⟨(bd.add (i * 3)).block, (bd.add (i * 3)).off + 1, none⟩ = some (.int .i64 st.size) ∧ W.cell? ⟨(bd.add (i * 3)).block, (bd.add (i * 3)).off + 2, none⟩ = some (.int .i64 st.time) from fun W hW => by
          have key : ∀ j u, j ≠ 0 → (stV st)[j]? = some u → W.cell? ⟨(bd.add (i * 3)).block, (bd.add (i * 3)).off + j, none⟩ = some u := fun j u hj hu => by
            have h := HCS.out j u hu
            rw [Addr.add, if_neg hj] at h
            exact (hW.cell (World.block_lt_of_cell? _ _ h)).trans h
          have k0 : W.cell? (bd.add (i * 3)) = some (.int .i64 st.ino) := by
            have h := HCS.out 0 _ rfl
            rw [show (bd.add (i * 3)).add 0 = bd.add (i * 3) by rw [add_of_add, Nat.add_zero]] at h
            exact (hW.cell (World.block_lt_of_cell? _ _ h)).trans h
          exact ⟨k0, key 1 _ (by omega) rfl, key 2 _ (by omega) rfl⟩)
        have HP2 := Lib.hid (show ∀ W, Below wr.heap.size wr W → W.cell? ⟨w.heap.size, 2, none⟩ = some (.slice (some ad) a.tree.length c) from fun W hW => (hW.cell (World.block_lt_of_cell? _ _ p2)).trans p2)
        have HP3 := Lib.hid (show ∀ W, Below wr.heap.size wr W → W.cell? ⟨w.heap.size, 3, none⟩ = some (.slice (some bd) a.stamps.length d) from fun W hW => (hW.cell (World.block_lt_of_cell? _ _ p3)).trans p3)
        refine wp_region_held_drew (S := fun W => Below wr.heap.size wr W) (by kernel_rfl) (Below.refl _ _).drew (fun hH => ?_)
        change wpAnyH _ _ _ _ _ (13 + 1) #[false, false, false, false, false, false, false, false, false, false, false, false, false, false] _ _
        refine wpAnyH_take (i := 0) (v := .pointer (some ⟨w.heap.size, 2, none⟩)) rfl (by kernel_rfl) (by kernel_rfl) (by kernel_rfl) (fun _ _ _ h => h) (Or.inl ⟨by rfl, ?_⟩) (by assumption) ?_
        · intro W hW
          go_simp
        try simp only [List.getElem_toArray, List.getElem_cons_zero, List.getElem_cons_succ, Act.put, List.setIfInBounds_toArray, List.set_cons_zero, List.set_cons_succ]
        refine wpAnyH_take (i := 1) (v := .slice (some ad) a.tree.length c) rfl (by kernel_rfl) (by kernel_rfl) (by kernel_rfl) (fun _ _ _ h => h) (Or.inl ⟨by rfl, ?_⟩) (by assumption) ?_
        · intro W hW
          have z2 := HP2.out W hW
          go_simp
        try simp only [List.getElem_toArray, List.getElem_cons_zero, List.getElem_cons_succ, Act.put, List.setIfInBounds_toArray, List.set_cons_zero, List.set_cons_succ]
        refine wpAnyH_take (i := 2) (v := .int .i64 (i : Nat)) rfl (by kernel_rfl) (by kernel_rfl) (by kernel_rfl) (fun _ _ _ h => h) (Or.inl ⟨by rfl, ?_⟩) (by assumption) ?_
        · intro W hW
          go_simp
        try simp only [List.getElem_toArray, List.getElem_cons_zero, List.getElem_cons_succ, Act.put, List.setIfInBounds_toArray, List.set_cons_zero, List.set_cons_succ]
        refine wpAnyH_take (i := 3) (v := .pointer (some (ad.add (i * 4)))) rfl (by kernel_rfl) (by kernel_rfl) (by kernel_rfl) (fun _ _ _ h => h) (Or.inl ⟨by rfl, ?_⟩) (by assumption) ?_
        · intro W hW
          go_simp
        try simp only [List.getElem_toArray, List.getElem_cons_zero, List.getElem_cons_succ, Act.put, List.setIfInBounds_toArray, List.set_cons_zero, List.set_cons_succ]
        refine wpAnyH_take (i := 4) (v := .agg #[.string ⟨nd.path.toArray⟩, .int .i64 nd.kind, .string ⟨nd.data.toArray⟩, .int .i64 nd.mode]) rfl (by kernel_rfl) (by kernel_rfl) (by kernel_rfl) (fun _ _ _ h => h) (Or.inl ⟨by rfl, ?_⟩) (by assumption) ?_
        · intro W hW
          obtain ⟨z0, z1, z2, z3⟩ := HNC.out W hW
          go_simp
        try simp only [List.getElem_toArray, List.getElem_cons_zero, List.getElem_cons_succ, Act.put, List.setIfInBounds_toArray, List.set_cons_zero, List.set_cons_succ]
        refine wpAnyH_take (i := 5) (v := .pointer (some ⟨w.heap.size, 3, none⟩)) rfl (by kernel_rfl) (by kernel_rfl) (by kernel_rfl) (fun _ _ _ h => h) (Or.inl ⟨by rfl, ?_⟩) (by assumption) ?_
        · intro W hW
          go_simp
        try simp only [List.getElem_toArray, List.getElem_cons_zero, List.getElem_cons_succ, Act.put, List.setIfInBounds_toArray, List.set_cons_zero, List.set_cons_succ]
        refine wpAnyH_take (i := 6) (v := .slice (some bd) a.stamps.length d) rfl (by kernel_rfl) (by kernel_rfl) (by kernel_rfl) (fun _ _ _ h => h) (Or.inl ⟨by rfl, ?_⟩) (by assumption) ?_
        · intro W hW
          have z2 := HP3.out W hW
          go_simp
        try simp only [List.getElem_toArray, List.getElem_cons_zero, List.getElem_cons_succ, Act.put, List.setIfInBounds_toArray, List.set_cons_zero, List.set_cons_succ]
        refine wpAnyH_take (i := 7) (v := .int .i64 (i : Nat)) rfl (by kernel_rfl) (by kernel_rfl) (by kernel_rfl) (fun _ _ _ h => h) (Or.inl ⟨by rfl, ?_⟩) (by assumption) ?_
        · intro W hW
          go_simp
        try simp only [List.getElem_toArray, List.getElem_cons_zero, List.getElem_cons_succ, Act.put, List.setIfInBounds_toArray, List.set_cons_zero, List.set_cons_succ]
        refine wpAnyH_take (i := 8) (v := .pointer (some (bd.add (i * 3)))) rfl (by kernel_rfl) (by kernel_rfl) (by kernel_rfl) (fun _ _ _ h => h) (Or.inl ⟨by rfl, ?_⟩) (by assumption) ?_
        · intro W hW
          go_simp
        try simp only [List.getElem_toArray, List.getElem_cons_zero, List.getElem_cons_succ, Act.put, List.setIfInBounds_toArray, List.set_cons_zero, List.set_cons_succ]
        refine wpAnyH_take (i := 9) (v := .agg #[.int .i64 st.ino, .int .i64 st.size, .int .i64 st.time]) rfl (by kernel_rfl) (by kernel_rfl) (by kernel_rfl) (fun _ _ _ h => h) (Or.inl ⟨by rfl, ?_⟩) (by assumption) ?_
        · intro W hW
          obtain ⟨z0, z1, z2⟩ := HSC.out W hW
          go_simp
        try simp only [List.getElem_toArray, List.getElem_cons_zero, List.getElem_cons_succ, Act.put, List.setIfInBounds_toArray, List.set_cons_zero, List.set_cons_succ]
        generalize wr.drew = X0 at *
        clear p2 p3
        refine wpAnyH_ready (rs := [10, 11]) (by kernel_rfl) (by simp) ?_
        refine AllReadyH.cons rfl (fun K hK => ?_) (AllReadyH.cons rfl (fun K hK => ?_) AllReadyH.nil)
        · go_simp
          refine hK.out _ _ (hH.alloc hH.size _) (fun hH1 => ?_)
          clear hK K
          refine wpAnyH_ready (rs := [11]) (by kernel_rfl) (by simp) ?_
          refine AllReadyH.cons rfl (fun K hK => ?_) AllReadyH.nil
          go_simp
          refine hK.out _ _ (hH1.alloc hH1.size _) (fun hH2 => ?_)
          clear hK K
          have h_o1 := (show ((X0.alloc (.cells #[.string ⟨#[]⟩, .int .i64 0, .string ⟨#[]⟩, .int .i64 0] 41)).alloc (.cells #[.int .i64 0, .int .i64 0, .int .i64 0] 55)).heap[X0.heap.size]? = some (.cells #[.string ⟨#[]⟩, .int .i64 0, .string ⟨#[]⟩, .int .i64 0] 41 (0, 0)) by rw [Below.heap_alloc _ _ _ (by simp)]; exact heap_alloc_new _ _)
          have h_o2 := (show ((X0.alloc (.cells #[.string ⟨#[]⟩, .int .i64 0, .string ⟨#[]⟩, .int .i64 0] 41)).alloc (.cells #[.int .i64 0, .int .i64 0, .int .i64 0] 55)).heap[X0.heap.size + 1]? = some (.cells #[.int .i64 0, .int .i64 0, .int .i64 0] 55 (0, 0)) by have h := heap_alloc_new (X0.alloc (.cells #[.string ⟨#[]⟩, .int .i64 0, .string ⟨#[]⟩, .int .i64 0] 41)) (.cells #[.int .i64 0, .int .i64 0, .int .i64 0] 55); simpa using h)
          have HXN := Lib.hid h_o1
          have HXS := Lib.hid h_o2
          have HGX := Lib.hid (show wr.heap.size ≤ X0.heap.size by have := hH.size; omega)
          have HGY := Lib.hid (show wr.heap.size ≤ X0.heap.size + 1 by have := hH.size; omega)
          have HNE := Lib.hid (show (X0.heap.size : Nat) ≠ X0.heap.size + 1 by omega)
          clear h_o1 h_o2
          generalize (X0.alloc (.cells #[.string ⟨#[]⟩, .int .i64 0, .string ⟨#[]⟩, .int .i64 0] 41)).alloc (.cells #[.int .i64 0, .int .i64 0, .int .i64 0] 55) = X2 at *
          generalize X0.heap.size + 1 = by8 at *
          generalize X0.heap.size = bx at *
          refine wpAnyH_ready (rs := [12]) (by kernel_rfl) (by simp) ?_
          refine AllReadyH.cons rfl (fun K hK => ?_) AllReadyH.nil
          have z0 := cell_of_row X2 _ 0 _ _ _ HXN.out
          have f0 := frozen_of_row X2 bx 0 _ _ HXN.out
          have z1 := cell_of_row X2 _ 1 _ _ _ HXN.out
          have f1 := frozen_of_row X2 bx 1 _ _ HXN.out
          have z2 := cell_of_row X2 _ 2 _ _ _ HXN.out
          have f2 := frozen_of_row X2 bx 2 _ _ HXN.out
          have z3 := cell_of_row X2 _ 3 _ _ _ HXN.out
          have f3 := frozen_of_row X2 bx 3 _ _ HXN.out
          go_simp
          clear z0 z1 z2 z3 f0 f1 f2 f3
          refine hK.out _ _ (below_row4 hH2 HGX.out) (fun hH3 => ?_)
          clear hK K
          have HX3N := Lib.hid (set_row4 (a' := .string ⟨nd.path.toArray⟩) (b' := .int .i64 nd.kind) (c' := .string ⟨nd.data.toArray⟩) (d' := .int .i64 nd.mode) HXN.out)
          have HX3S := Lib.hid ((row4_far (a := .string ⟨nd.path.toArray⟩) (b := .int .i64 nd.kind) (c := .string ⟨nd.data.toArray⟩) (d := .int .i64 nd.mode) (Ne.symm HNE.out)).trans HXS.out)
          generalize (((X2.setCell ⟨bx, 0, none⟩ (.string ⟨nd.path.toArray⟩)).setCell ⟨bx, 1, none⟩ (.int .i64 nd.kind)).setCell ⟨bx, 2, none⟩ (.string ⟨nd.data.toArray⟩)).setCell ⟨bx, 3, none⟩ (.int .i64 nd.mode) = X3 at *
          clear HXN HXS hH2
          refine wpAnyH_ready (rs := [13]) (by kernel_rfl) (by simp) ?_
          refine AllReadyH.cons rfl (fun K hK => ?_) AllReadyH.nil
          have z0 := cell_of_row X3 _ 0 _ _ _ HX3S.out
          have f0 := frozen_of_row X3 by8 0 _ _ HX3S.out
          have z1 := cell_of_row X3 _ 1 _ _ _ HX3S.out
          have f1 := frozen_of_row X3 by8 1 _ _ HX3S.out
          have z2 := cell_of_row X3 _ 2 _ _ _ HX3S.out
          have f2 := frozen_of_row X3 by8 2 _ _ HX3S.out
          go_simp
          clear z0 z1 z2 f0 f1 f2
          refine hK.out _ _ (below_row3 hH3 HGY.out) (fun hH4 => ?_)
          clear hK K
          have HX4S := Lib.hid (set_row3 (a' := .int .i64 st.ino) (b' := .int .i64 st.size) (c' := .int .i64 st.time) HX3S.out)
          have HX4N := Lib.hid ((row3_far (a := .int .i64 st.ino) (b := .int .i64 st.size) (c := .int .i64 st.time) HNE.out).trans HX3N.out)
          generalize ((X3.setCell ⟨by8, 0, none⟩ (.int .i64 st.ino)).setCell ⟨by8, 1, none⟩ (.int .i64 st.size)).setCell ⟨by8, 2, none⟩ (.int .i64 st.time) = X4 at *
          clear HX3N HX3S hH3
          refine wpAnyH_done (by kernel_rfl) ?_ _
          have HW4 := Lib.hid (HW.out.trans (hH4.mono HW.out.size))
          clear hH hH1 hH4
          have n0 : X4.cell? ⟨bx, 0, none⟩ = some (.string ⟨nd.path.toArray⟩) := cell_of_row X4 _ 0 _ _ _ HX4N.out
          have n1 : X4.cell? ⟨bx, 1, none⟩ = some (.int .i64 nd.kind) := cell_of_row X4 _ 1 _ _ _ HX4N.out
          have n2 : X4.cell? ⟨bx, 2, none⟩ = some (.string ⟨nd.data.toArray⟩) := cell_of_row X4 _ 2 _ _ _ HX4N.out
          have n3 : X4.cell? ⟨bx, 3, none⟩ = some (.int .i64 nd.mode) := cell_of_row X4 _ 3 _ _ _ HX4N.out
          have s0 : X4.cell? ⟨by8, 0, none⟩ = some (.int .i64 st.ino) := cell_of_row X4 _ 0 _ _ _ HX4S.out
          have s1 : X4.cell? ⟨by8, 1, none⟩ = some (.int .i64 st.size) := cell_of_row X4 _ 1 _ _ _ HX4S.out
          have s2 : X4.cell? ⟨by8, 2, none⟩ = some (.int .i64 st.time) := cell_of_row X4 _ 2 _ _ _ HX4S.out
          go_upto_region 8 with (fail)
          refine wp_region_below (by kernel_rfl) (by kernel_rfl) ?_
          iterate 1 (go_big_quiet_step (fail))
          iterate 4 (first | (go_big_quiet_want; refine quiet_load_cell 9 _ rfl _ rfl _ _ n0 Tryz.underlying9 rfl ?_; simp only [Act.put, List.setIfInBounds_toArray, List.set_cons_succ, List.set_cons_zero]; go_big_quiet_on) | go_big_quiet_step ((intro hW; go_at_call 39; exact Ret.quiet hW (HQ1.out _))))
          iterate 4 (first | (go_big_quiet_want; refine quiet_load_cell 3 _ rfl _ rfl _ _ n1 Tryz.underlying3 rfl ?_; simp only [Act.put, List.setIfInBounds_toArray, List.set_cons_succ, List.set_cons_zero]; go_big_quiet_on) | go_big_quiet_step ((intro hW; go_at_call 40; exact Ret.quiet hW (HQ2.out _))))
          iterate 4 (first | (go_big_quiet_want; refine quiet_load_cell 3 _ rfl _ rfl _ _ n3 Tryz.underlying3 rfl ?_; simp only [Act.put, List.setIfInBounds_toArray, List.set_cons_succ, List.set_cons_zero]; go_big_quiet_on) | go_big_quiet_step ((intro hW; go_at_call 40; exact Ret.quiet hW (HQ3.out _))))
          iterate 4 (first | (go_big_quiet_want; refine quiet_load_cell 9 _ rfl _ rfl _ _ n2 Tryz.underlying9 rfl ?_; simp only [Act.put, List.setIfInBounds_toArray, List.set_cons_succ, List.set_cons_zero]; go_big_quiet_on) | go_big_quiet_step ((intro hW; go_at_call 39; exact Ret.quiet hW (HQ4.out _))))
          iterate 4 (first | (go_big_quiet_want; refine quiet_load_cell 3 _ rfl _ rfl _ _ s0 Tryz.underlying3 rfl ?_; simp only [Act.put, List.setIfInBounds_toArray, List.set_cons_succ, List.set_cons_zero]; go_big_quiet_on) | go_big_quiet_step ((intro hW; go_at_call 40; exact Ret.quiet hW (HQ5.out _))))
          iterate 4 (first | (go_big_quiet_want; refine quiet_load_cell 3 _ rfl _ rfl _ _ s1 Tryz.underlying3 rfl ?_; simp only [Act.put, List.setIfInBounds_toArray, List.set_cons_succ, List.set_cons_zero]; go_big_quiet_on) | go_big_quiet_step ((intro hW; go_at_call 40; exact Ret.quiet hW (HQ6.out _))))
          iterate 5 (first | (go_big_quiet_want; refine quiet_load_cell 3 _ rfl _ rfl _ _ s2 Tryz.underlying3 rfl ?_; simp only [Act.put, List.setIfInBounds_toArray, List.set_cons_succ, List.set_cons_zero]; go_big_quiet_on) | go_big_quiet_step ((intro hW; go_at_call 40; exact Ret.quiet hW (HQ7.out _))))
          refine wpQuiet_nil ?_
          intro W5 hW5
          have HW5 := Lib.hid (HW4.out.trans (hW5.mono HW4.out.size))
          clear hW5 n0 n1 n2 n3 s0 s1 s2
          go_wp2_with (fail)
          go_roundw
          case rel => exact ⟨i + 1, by omega, by rw [HNX.out], by go_num, HW5⟩
          case measure => simp [intOf]; omega
        · go_simp
          refine hK.out _ _ (hH.alloc hH.size _) (fun hH1 => ?_)
          clear hK K
          refine wpAnyH_ready (rs := [10]) (by kernel_rfl) (by simp) ?_
          refine AllReadyH.cons rfl (fun K hK => ?_) AllReadyH.nil
          go_simp
          refine hK.out _ _ (hH1.alloc hH1.size _) (fun hH2 => ?_)
          clear hK K
          have h_o1 := (show ((X0.alloc (.cells #[.int .i64 0, .int .i64 0, .int .i64 0] 55)).alloc (.cells #[.string ⟨#[]⟩, .int .i64 0, .string ⟨#[]⟩, .int .i64 0] 41)).heap[X0.heap.size]? = some (.cells #[.int .i64 0, .int .i64 0, .int .i64 0] 55 (0, 0)) by rw [Below.heap_alloc _ _ _ (by simp)]; exact heap_alloc_new _ _)
          have h_o2 := (show ((X0.alloc (.cells #[.int .i64 0, .int .i64 0, .int .i64 0] 55)).alloc (.cells #[.string ⟨#[]⟩, .int .i64 0, .string ⟨#[]⟩, .int .i64 0] 41)).heap[X0.heap.size + 1]? = some (.cells #[.string ⟨#[]⟩, .int .i64 0, .string ⟨#[]⟩, .int .i64 0] 41 (0, 0)) by have h := heap_alloc_new (X0.alloc (.cells #[.int .i64 0, .int .i64 0, .int .i64 0] 55)) (.cells #[.string ⟨#[]⟩, .int .i64 0, .string ⟨#[]⟩, .int .i64 0] 41); simpa using h)
          have HXN := Lib.hid h_o2
          have HXS := Lib.hid h_o1
          have HGX := Lib.hid (show wr.heap.size ≤ X0.heap.size + 1 by have := hH.size; omega)
          have HGY := Lib.hid (show wr.heap.size ≤ X0.heap.size by have := hH.size; omega)
          have HNE := Lib.hid (show (X0.heap.size + 1 : Nat) ≠ X0.heap.size by omega)
          clear h_o1 h_o2
          generalize (X0.alloc (.cells #[.int .i64 0, .int .i64 0, .int .i64 0] 55)).alloc (.cells #[.string ⟨#[]⟩, .int .i64 0, .string ⟨#[]⟩, .int .i64 0] 41) = X2 at *
          generalize X0.heap.size + 1 = bx at *
          generalize X0.heap.size = by8 at *
          refine wpAnyH_ready (rs := [12]) (by kernel_rfl) (by simp) ?_
          refine AllReadyH.cons rfl (fun K hK => ?_) AllReadyH.nil
          have z0 := cell_of_row X2 _ 0 _ _ _ HXN.out
          have f0 := frozen_of_row X2 bx 0 _ _ HXN.out
          have z1 := cell_of_row X2 _ 1 _ _ _ HXN.out
          have f1 := frozen_of_row X2 bx 1 _ _ HXN.out
          have z2 := cell_of_row X2 _ 2 _ _ _ HXN.out
          have f2 := frozen_of_row X2 bx 2 _ _ HXN.out
          have z3 := cell_of_row X2 _ 3 _ _ _ HXN.out
          have f3 := frozen_of_row X2 bx 3 _ _ HXN.out
          go_simp
          clear z0 z1 z2 z3 f0 f1 f2 f3
          refine hK.out _ _ (below_row4 hH2 HGX.out) (fun hH3 => ?_)
          clear hK K
          have HX3N := Lib.hid (set_row4 (a' := .string ⟨nd.path.toArray⟩) (b' := .int .i64 nd.kind) (c' := .string ⟨nd.data.toArray⟩) (d' := .int .i64 nd.mode) HXN.out)
          have HX3S := Lib.hid ((row4_far (a := .string ⟨nd.path.toArray⟩) (b := .int .i64 nd.kind) (c := .string ⟨nd.data.toArray⟩) (d := .int .i64 nd.mode) (Ne.symm HNE.out)).trans HXS.out)
          generalize (((X2.setCell ⟨bx, 0, none⟩ (.string ⟨nd.path.toArray⟩)).setCell ⟨bx, 1, none⟩ (.int .i64 nd.kind)).setCell ⟨bx, 2, none⟩ (.string ⟨nd.data.toArray⟩)).setCell ⟨bx, 3, none⟩ (.int .i64 nd.mode) = X3 at *
          clear HXN HXS hH2
          refine wpAnyH_ready (rs := [13]) (by kernel_rfl) (by simp) ?_
          refine AllReadyH.cons rfl (fun K hK => ?_) AllReadyH.nil
          have z0 := cell_of_row X3 _ 0 _ _ _ HX3S.out
          have f0 := frozen_of_row X3 by8 0 _ _ HX3S.out
          have z1 := cell_of_row X3 _ 1 _ _ _ HX3S.out
          have f1 := frozen_of_row X3 by8 1 _ _ HX3S.out
          have z2 := cell_of_row X3 _ 2 _ _ _ HX3S.out
          have f2 := frozen_of_row X3 by8 2 _ _ HX3S.out
          go_simp
          clear z0 z1 z2 f0 f1 f2
          refine hK.out _ _ (below_row3 hH3 HGY.out) (fun hH4 => ?_)
          clear hK K
          have HX4S := Lib.hid (set_row3 (a' := .int .i64 st.ino) (b' := .int .i64 st.size) (c' := .int .i64 st.time) HX3S.out)
          have HX4N := Lib.hid ((row3_far (a := .int .i64 st.ino) (b := .int .i64 st.size) (c := .int .i64 st.time) HNE.out).trans HX3N.out)
          generalize ((X3.setCell ⟨by8, 0, none⟩ (.int .i64 st.ino)).setCell ⟨by8, 1, none⟩ (.int .i64 st.size)).setCell ⟨by8, 2, none⟩ (.int .i64 st.time) = X4 at *
          clear HX3N HX3S hH3
          refine wpAnyH_done (by kernel_rfl) ?_ _
          have HW4 := Lib.hid (HW.out.trans (hH4.mono HW.out.size))
          clear hH hH1 hH4
          have n0 : X4.cell? ⟨bx, 0, none⟩ = some (.string ⟨nd.path.toArray⟩) := cell_of_row X4 _ 0 _ _ _ HX4N.out
          have n1 : X4.cell? ⟨bx, 1, none⟩ = some (.int .i64 nd.kind) := cell_of_row X4 _ 1 _ _ _ HX4N.out
          have n2 : X4.cell? ⟨bx, 2, none⟩ = some (.string ⟨nd.data.toArray⟩) := cell_of_row X4 _ 2 _ _ _ HX4N.out
          have n3 : X4.cell? ⟨bx, 3, none⟩ = some (.int .i64 nd.mode) := cell_of_row X4 _ 3 _ _ _ HX4N.out
          have s0 : X4.cell? ⟨by8, 0, none⟩ = some (.int .i64 st.ino) := cell_of_row X4 _ 0 _ _ _ HX4S.out
          have s1 : X4.cell? ⟨by8, 1, none⟩ = some (.int .i64 st.size) := cell_of_row X4 _ 1 _ _ _ HX4S.out
          have s2 : X4.cell? ⟨by8, 2, none⟩ = some (.int .i64 st.time) := cell_of_row X4 _ 2 _ _ _ HX4S.out
          go_upto_region 8 with (fail)
          refine wp_region_below (by kernel_rfl) (by kernel_rfl) ?_
          iterate 1 (go_big_quiet_step (fail))
          iterate 4 (first | (go_big_quiet_want; refine quiet_load_cell 9 _ rfl _ rfl _ _ n0 Tryz.underlying9 rfl ?_; simp only [Act.put, List.setIfInBounds_toArray, List.set_cons_succ, List.set_cons_zero]; go_big_quiet_on) | go_big_quiet_step ((intro hW; go_at_call 39; exact Ret.quiet hW (HQ1.out _))))
          iterate 4 (first | (go_big_quiet_want; refine quiet_load_cell 3 _ rfl _ rfl _ _ n1 Tryz.underlying3 rfl ?_; simp only [Act.put, List.setIfInBounds_toArray, List.set_cons_succ, List.set_cons_zero]; go_big_quiet_on) | go_big_quiet_step ((intro hW; go_at_call 40; exact Ret.quiet hW (HQ2.out _))))
          iterate 4 (first | (go_big_quiet_want; refine quiet_load_cell 3 _ rfl _ rfl _ _ n3 Tryz.underlying3 rfl ?_; simp only [Act.put, List.setIfInBounds_toArray, List.set_cons_succ, List.set_cons_zero]; go_big_quiet_on) | go_big_quiet_step ((intro hW; go_at_call 40; exact Ret.quiet hW (HQ3.out _))))
          iterate 4 (first | (go_big_quiet_want; refine quiet_load_cell 9 _ rfl _ rfl _ _ n2 Tryz.underlying9 rfl ?_; simp only [Act.put, List.setIfInBounds_toArray, List.set_cons_succ, List.set_cons_zero]; go_big_quiet_on) | go_big_quiet_step ((intro hW; go_at_call 39; exact Ret.quiet hW (HQ4.out _))))
          iterate 4 (first | (go_big_quiet_want; refine quiet_load_cell 3 _ rfl _ rfl _ _ s0 Tryz.underlying3 rfl ?_; simp only [Act.put, List.setIfInBounds_toArray, List.set_cons_succ, List.set_cons_zero]; go_big_quiet_on) | go_big_quiet_step ((intro hW; go_at_call 40; exact Ret.quiet hW (HQ5.out _))))
          iterate 4 (first | (go_big_quiet_want; refine quiet_load_cell 3 _ rfl _ rfl _ _ s1 Tryz.underlying3 rfl ?_; simp only [Act.put, List.setIfInBounds_toArray, List.set_cons_succ, List.set_cons_zero]; go_big_quiet_on) | go_big_quiet_step ((intro hW; go_at_call 40; exact Ret.quiet hW (HQ6.out _))))
          iterate 5 (first | (go_big_quiet_want; refine quiet_load_cell 3 _ rfl _ rfl _ _ s2 Tryz.underlying3 rfl ?_; simp only [Act.put, List.setIfInBounds_toArray, List.set_cons_succ, List.set_cons_zero]; go_big_quiet_on) | go_big_quiet_step ((intro hW; go_at_call 40; exact Ret.quiet hW (HQ7.out _))))
          refine wpQuiet_nil ?_
          intro W5 hW5
          have HW5 := Lib.hid (HW4.out.trans (hW5.mono HW4.out.size))
          clear hW5 n0 n1 n2 n3 s0 s1 s2
          go_wp2_with (fail)
          go_roundw
          case rel => exact ⟨i + 1, by omega, by rw [HNX.out], by go_num, HW5⟩
          case measure => simp [intOf]; omega
      · obtain rfl : i = a.tree.length := by omega
        have i1 : decide ((a.tree.length : Int) < (a.tree.length : Int)) = false := by rw [decide_eq_false_iff_not]; omega
        have HUA := Lib.hid (upA_all HKP.out.2.2.2.2.1)
        have HPK2 := HPK
        rw [← HUA.out] at HPK2
        go_wp2_with (fail)
        refine (show Calls Tryz.prog 41 _ _ _ from HPK2.out _).mono ?_
        rintro e w5 ⟨rfl, hw5⟩
        go_wp2_with (fail)
        go_ret2
        exact ⟨by rw [HUA.out]; rfl, (HUP.out _ HW.out).trans (hw5.mono (HUP.out _ HW.out).size)⟩
end Go.Proofs.YtjajoiahgfafgaaGreatDoor
end
