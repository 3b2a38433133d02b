/- Texts joined: Rec2, Arch4, WholeRows, RowsE, HashCrcRef, Rec3, HeldLast. -/
import Derived.Test.YtjajoiahgfafgaaGreatDoorBArchWrites8
import Derived.Test.YtjajoiahgfafgaaGreatDoorBCodeBaseC1
import Derived.Deep.MidRow
import Derived.Test.YtjajoiahgfafgaaGreatDoorBArchWrites6
import Derived.Deep.RegionHeld
import Derived.StillTail
set_option linter.unusedSimpArgs false
set_option linter.unusedVariables false


section
namespace Go.Proofs.YtjajoiahgfafgaaGreatDoor
open Go.RowKit Plain

set_option maxHeartbeats 400000 in
theorem Pack_any (p : List UInt8) (w : World) (hp : p.length ≤ 1048576) :
    Calls Tryz.prog 37 #[.string ⟨p.toArray⟩] w (Ret w (.tuple #[.string ⟨(record p).toArray⟩, .int .i64 0])) := by
  have hl := crc_lt (four p.length ++ p)
  have hf : (four p.length).length = 4 := rfl
  have hf2 : (four (crc (four p.length ++ p))).length = 4 := rfl
  go_enter Tryz.func37, Tryz.ntmps37
  go_wp2_with (fail)
  refine (Ret.quiet (Below.refl _ _) (four_any _ _ (by omega))).mono ?_
  rintro e w1 ⟨rfl, hb1⟩
  go_wp2_with (fail)
  refine (Ret.quiet (hb1) (Crc_any _ _ (by simp; omega))).mono ?_
  rintro e w2 ⟨rfl, hb2⟩
  go_wp2_with (fail)
  refine (Ret.quiet (hb2) (four_any _ _ hl)).mono ?_
  rintro e w3 ⟨rfl, hb3⟩
  go_wp2_with (fail)
  go_ret2
  refine ⟨?_, hb3⟩
  simp [record]
set_option maxHeartbeats 400000 in
theorem Pack_more (p : List UInt8) (w : World) (hs : p.length ≤ 9223372036854775807) (hp : 1048576 < p.length) :
    Calls Tryz.prog 37 #[.string ⟨p.toArray⟩] w (Ret w (.tuple #[.string ⟨#[]⟩, .int .i64 32])) := by
  go_enter Tryz.func37, Tryz.ntmps37
  go_wp2_with (fail)
  go_ret2
  exact ⟨rfl, Below.refl _ _⟩

theorem Pack_all (p : List UInt8) (w : World) (hs : p.length ≤ 9223372036854775807) :
    Calls Tryz.prog 37 #[.string ⟨p.toArray⟩] w (Ret w (.tuple #[.string ⟨(pack p).1.toArray⟩, .int .i64 (pack p).2])) := by
  rcases Nat.lt_or_ge 1048576 p.length with h | h
  · rw [pack_more h]; exact Pack_more p w hs h
  · rw [pack_ok h]; exact Pack_any p w h

set_option maxHeartbeats 400000 in
theorem Next_any (s : List UInt8) (w : World)  (hs : s.length ≤ 9223372036854775807) :
    Calls Tryz.prog 55 #[.string ⟨s.toArray⟩] w (Ret w (.tuple #[.string ⟨(next s).1.toArray⟩, .string ⟨(next s).2.1.toArray⟩, .int .i64 (next s).2.2])) := by
  have hn := num_lt s
  go_enter Tryz.func55, Tryz.ntmps55
  go_wp2_with (fail)
  · go_ret3
    refine ⟨?_, Below.refl _ _⟩
    rw [next_short (by omega)]
    rfl
  refine (Ret.quiet (Below.refl _ _) (recNumber_any _ _ (by omega))).mono ?_
  rintro e w1 ⟨rfl, hb1⟩
  go_wp2_with (fail)
  · go_ret3
    refine ⟨?_, hb1⟩
    rw [next_more (by omega) (by omega)]
    rfl
  · go_ret3
    refine ⟨?_, hb1⟩
    rw [next_cut (by omega) (by omega) (by omega)]
    rfl
  have k1 : IntKind.u32.wrap (8 + (num s : Int)) = 8 + (num s : Int) := by rw [IntKind.wrap_u32]; omega
  have z1 : (0 : Int) ≤ 8 + (num s : Int) := by omega
  have l1 : (List.take 4 s ++ List.take (num s) (List.drop 8 s)).length = 4 + num s := by simp; omega
  have l2 : (4 : Int) ≤ s.length := by omega
  have l3 : 8 + num s - 8 = num s := by omega
  refine wp_region_below (by kernel_rfl) (by kernel_rfl) ?_
  repeat (go_big_quiet_step (fail))
  refine wpQuiet_nil ?_
  intro W2 hW2
  go_wp2_with (fail)
  by_cases h3 : num (s.drop 4) = crc (s.take 4 ++ (s.drop 8).take (num s))
  · have hB : ((num (s.drop 4) : Int) != (crc (s.take 4 ++ (s.drop 8).take (num s)) : Int)) = false := by rw [h3]; simp
    have H3 := Lib.hid h3
    clear h3
    refine wp_region_below (by kernel_rfl) (by kernel_rfl) ?_
    repeat (go_big_quiet_step ((intro hW; first | (go_at_call 88; exact Ret.quiet hW (recNumber_any _ _ (by simp; omega))) | (go_at_call 67; exact Ret.quiet hW (Crc_any _ _ (by simp; omega))))))
    refine wpQuiet_nil ?_
    intro W3 hW3
    go_wp2_with (fail)
    go_ret3
    refine ⟨?_, (hb1.trans (hW2.mono hb1.size)).trans (hW3.mono (Nat.le_trans hb1.size hW2.size))⟩
    rw [next_ok (by omega) (by omega) (by omega) H3.out]
    simp only [Array.getD_eq_getD_getElem?, List.getElem?_toArray, List.getElem?_cons_succ, List.getElem?_cons_zero, Option.getD_some, Nat.add_sub_cancel_left]
    rfl
  · have hB : ((num (s.drop 4) : Int) != (crc (s.take 4 ++ (s.drop 8).take (num s)) : Int)) = true := by simpa using (by omega : (num (s.drop 4) : Int) ≠ (crc (s.take 4 ++ (s.drop 8).take (num s)) : Int))
    have H3 := Lib.hid h3
    clear h3
    refine wp_region_below (by kernel_rfl) (by kernel_rfl) ?_
    repeat (go_big_quiet_step ((intro hW; first | (go_at_call 88; exact Ret.quiet hW (recNumber_any _ _ (by simp; omega))) | (go_at_call 67; exact Ret.quiet hW (Crc_any _ _ (by simp; omega))))))
    refine wpQuiet_nil ?_
    intro W3 hW3
    go_wp2_with (fail)
    go_ret3
    refine ⟨?_, (hb1.trans (hW2.mono hb1.size)).trans (hW3.mono (Nat.le_trans hb1.size hW2.size))⟩
    rw [next_sum (by omega) (by omega) (by omega) H3.out]
    rfl
end Go.Proofs.YtjajoiahgfafgaaGreatDoor
end

/- arch.Encode. -/
section
set_option linter.unusedVariables false
namespace Go.Proofs.YtjajoiahgfafgaaGreatDoor
open Go.RowKit Plain

namespace Plain
theorem numsB_two {x y : Int} (hx : 0 ≤ x) (hy : 0 ≤ y) : numsB [x, y] = numI x ++ numI y := by simp [numsB, numI, hx, hy]
theorem numsB_three {x y z : Int} (hx : 0 ≤ x) (hy : 0 ≤ y) (hz : 0 ≤ z) : numsB [x, y, z] = numI x ++ (numI y ++ numI z) := by simp [numsB, numI, hx, hy, hz]
theorem textsB_one (x : List UInt8) : textsB [x] = textB x := by simp [textsB]
theorem textsB_two (x y : List UInt8) : textsB [x, y] = textB x ++ textB y := by simp [textsB]
def upA (a : Arc) (k : Nat) : List UInt8 := headB a ++ ((a.tree.zip a.stamps).take k).flatMap nodeB
theorem upA_zero (a : Arc) : upA a 0 = headB a := by simp [upA]
theorem upA_all {a : Arc} (h : a.stamps.length = a.tree.length) : upA a a.tree.length = payA a := by
  unfold upA payA
  rw [List.take_of_length_le (by rw [List.length_zip]; omega)]
theorem upA_next {a : Arc} {k : Nat} (h : a.stamps.length = a.tree.length) (hk : k < a.tree.length) :
    upA a (k + 1) = ((upA a k ++ textB (a.tree.getD k default).path) ++ (numI (a.tree.getD k default).kind ++ numI (a.tree.getD k default).mode) ++ textB (a.tree.getD k default).data) ++ (numI (a.stamps.getD k default).ino ++ (numI (a.stamps.getD k default).size ++ numI (a.stamps.getD k default).time)) := by
  unfold upA
  rw [List.take_succ_eq_append_getElem (by rw [List.length_zip]; omega), List.flatMap_append, List.getElem_zip]
  rw [List.getD_eq_getElem?_getD, List.getElem?_eq_getElem hk, Option.getD_some, List.getD_eq_getElem?_getD, List.getElem?_eq_getElem (by omega), Option.getD_some]
  simp [nodeB]
theorem upA_le {a : Arc} (h : a.stamps.length = a.tree.length) (k : Nat) : (upA a k).length ≤ (payA a).length := by
  have h1 : payA a = upA a k ++ ((a.tree.zip a.stamps).drop k).flatMap nodeB := by
    unfold payA upA
    rw [List.append_assoc, ← List.flatMap_append, List.take_append_drop]
  rw [h1, List.length_append]; omega
end Plain
/-- a block that is no row of bytes is kept -/
theorem Wr.block {B b : Nat} {s : List UInt8} {w w' : World} (h : Wr B b s w w') {k : Nat} {cs : Array Value} {t : TypeId} {fz : Nat × Nat} (hk : w.heap[k]? = some (.cells cs t fz)) (hb : k ≠ b) (ht : t ≠ 5) : w'.heap[k]? = some (.cells cs t fz) :=
  h.2.2 k _ hk (by simpa using hb) (fun c z e => ht (by injection e))
theorem reads_kept {W W' : World} {b g : Nat} {vs : List Value} {t : TypeId} (hk : W.heap[g]? = some (.cells vs.toArray t (0, 0))) (hb : g ≠ b) (ht : t ≠ 5) (h : Lib.OthersKept 5 (some b) W W') (n : Nat) (hn : n = vs.length) : Reads W' 1 (some ⟨g, 0, none⟩) n vs := by
  have h1 := h g _ hk (by simpa using hb) (fun c z e => ht (by injection e))
  refine ⟨by omega, fun _ => ⟨_, rfl, fun j u hu => ?_⟩⟩
  have e : (⟨g, 0, none⟩ : Addr).add j = ⟨g, j, none⟩ := by unfold Addr.add; split <;> simp_all
  rw [e, cell_of_row _ _ j _ _ _ h1]
  simpa using hu
/-- texts of a slice that has just been built -/
theorem texts_new (b : Nat) (s : List UInt8) (l : List (List UInt8)) (w0 w : World) (hw : Wr b b s w0 w) (hb0 : b < w0.heap.size) (hl : ∀ t ∈ l, t.length ≤ 1048576) (hn : l.length ≤ 16) (hs : s.length ≤ 1048576) :
    Calls Tryz.prog 35 #[.pointer (some ⟨b, 0, none⟩), .slice (some ⟨w.heap.size, 0, none⟩) l.length l.length] (w.alloc (.cells (strs l).toArray 9)) fun e w' => e = .returned (.tuple #[]) ∧ Wr b b (s ++ textsB l) w0 w' ∧ Lib.OthersKept 5 (some b) w w' := by
  have hlt : b < w.heap.size := Nat.lt_of_lt_of_le hb0 hw.2.1.size
  have hal := (Below.refl w.heap.size w).alloc (Nat.le_refl _) (.cells (strs l).toArray 9)
  have hle := textsB_le l
  have hwt : wt l ≤ 1048577 * l.length := by
    clear hle hn
    induction l with
    | nil => simp [wt]
    | cons x r ih =>
      have h1 := hl x (List.mem_cons_self ..)
      have h2 := ih (fun t ht => hl t (List.mem_cons_of_mem _ ht)) ((Below.refl w.heap.size w).alloc (Nat.le_refl _) _)
      simp only [wt, List.map_cons, List.sum_cons, List.length_cons] at h2 ⊢
      omega
  refine (texts_any b b s l (some ⟨w.heap.size, 0, none⟩) l.length _ (builder_below hw.1 hal) (by simp; omega) (fun W hW => reads_kept (heap_alloc_new _ _) (by omega) (by decide) hW _ (by simp [strs])) (fun t ht => by have := hl t ht; omega) (by omega) (by omega)).mono ?_
  rintro e w' ⟨rfl, h⟩
  exact ⟨rfl, (hw.below (by omega) hal).trans h, (below_others hal).trans h.2.2⟩
theorem nums_new (b : Nat) (s : List UInt8) (l : List Int) (w0 w : World) (hw : Wr b b s w0 w) (hb0 : b < w0.heap.size) (hl : ∀ t ∈ l, 0 ≤ t ∧ t < 9223372036854775808) (hn : l.length ≤ 16) (hs : s.length ≤ 1048576) :
    Calls Tryz.prog 36 #[.pointer (some ⟨b, 0, none⟩), .slice (some ⟨w.heap.size, 0, none⟩) l.length l.length] (w.alloc (.cells (ints l).toArray 3)) fun e w' => e = .returned (.tuple #[]) ∧ Wr b b (s ++ numsB l) w0 w' ∧ Lib.OthersKept 5 (some b) w w' := by
  have hlt : b < w.heap.size := Nat.lt_of_lt_of_le hb0 hw.2.1.size
  have hal := (Below.refl w.heap.size w).alloc (Nat.le_refl _) (.cells (ints l).toArray 3)
  have hle := numsB_le l
  refine (nums_any b b s l (some ⟨w.heap.size, 0, none⟩) l.length _ (builder_below hw.1 hal) (by simp; omega) (fun W hW => reads_kept (heap_alloc_new _ _) (by omega) (by decide) hW _ (by simp [ints])) hl (by omega) (by omega)).mono ?_
  rintro e w' ⟨rfl, h⟩
  exact ⟨rfl, (hw.below (by omega) hal).trans h, (below_others hal).trans h.2.2⟩

set_option maxHeartbeats 2000000 in
set_option maxRecDepth 100000 in
theorem encode_any (a : Arc) (A : Option Addr) (c : Nat) (B : Option Addr) (d : Nat) (m : Int) (w : World) (hL : Laid w m) (hA : ArAt a A c B d w) (hsm : Small a) :
    Calls Tryz.prog 11 #[.agg (arV a A c B d).toArray] w (Ret w (.tuple #[.string ⟨(encodeA a).1.toArray⟩, .int .i64 (encodeA a).2])) := by
  have HCK := Lib.hid (fun W (h : Below w.heap.size w W) => acheck_any a A c B d m W (hL.below h) (hA.below h))
  obtain ⟨w1, hw1⟩ : ∃ w1, w.alloc (.cells (arV a A c B d).toArray 26) = w1 := ⟨_, rfl⟩
  have HW1 := Lib.hid hw1
  have HB1 := Lib.hid (show Below w.heap.size w w1 by rw [← hw1]; exact (Below.refl w.heap.size w).alloc (Nat.le_refl _) _)
  have HS1 := Lib.hid (show w1.heap.size = w.heap.size + 1 by rw [← hw1]; simp)
  have HRA := Lib.hid (show w1.heap[w.heap.size]? = some (.cells (arV a A c B d).toArray 26 (0, 0)) by rw [← hw1]; exact heap_alloc_new _ _)
  clear hw1 hL
  cases hck : checkA a with
  | false =>
    have HEN := Lib.hid (show encodeA a = ([], 90) by unfold encodeA; rw [hck]; rfl)
    rw [HEN.out]
    rw [hck] at HCK
    have H1 : Hid (∀ W, Below w.heap.size w W → Calls Tryz.prog 13 #[.agg (arV a A c B d).toArray] W (Ret W (.int .i64 90))) := HCK
    clear hck HCK hA
    unfold arV at *
    go_enter Tryz.func11, Tryz.ntmps11
    go_upto_region 1 with (fail)
    rw [HW1.out]
    have ta0 := cell_of_row w1 _ 0 _ _ _ HRA.out; have ta1 := cell_of_row w1 _ 1 _ _ _ HRA.out; have ta2 := cell_of_row w1 _ 2 _ _ _ HRA.out; have ta3 := cell_of_row w1 _ 3 _ _ _ HRA.out
    go_wp2_with (fail)
    refine (H1.out _ HB1.out).mono ?_
    rintro e w2 ⟨rfl, hw2⟩
    go_wp2_with (fail)
    go_ret2
    exact ⟨rfl, HB1.out.trans (hw2.mono HB1.out.size)⟩
  | true =>
    have HEN := Lib.hid (show encodeA a = (record (payA a), 0) by unfold encodeA; rw [hck]; rfl)
    rw [HEN.out]
    rw [hck] at HCK
    have H1 : Hid (∀ W, Below w.heap.size w W → Calls Tryz.prog 13 #[.agg (arV a A c B d).toArray] W (Ret W (.int .i64 0))) := HCK
    have HKP := Lib.hid (checkA_parts hck)
    have HFT := Lib.hid (zip_fits hck hsm)
    have HSM := Lib.hid hsm
    have HPL := Lib.hid (payA_length hck)
    have HPK := Lib.hid (fun W => Pack_any (payA a) W (payA_length hck))
    have HAA := Lib.hid (fun W (h : Below w.heap.size w W) => hA.below h)
    have htl := (bare_bounds (checkA_parts hck).2.2.2.1).1
    have HTL := Lib.hid htl
    clear hck HCK hA
    unfold arV at *
    go_enter Tryz.func11, Tryz.ntmps11
    go_upto_region 1 with (fail)
    rw [HW1.out]
    have ta0 := cell_of_row w1 _ 0 _ _ _ HRA.out; have ta1 := cell_of_row w1 _ 1 _ _ _ HRA.out; have ta2 := cell_of_row w1 _ 2 _ _ _ HRA.out; have ta3 := cell_of_row w1 _ 3 _ _ _ HRA.out
    go_wp2_with (fail)
    refine (H1.out _ HB1.out).mono ?_
    rintro e w2 ⟨rfl, hw2⟩
    clear ta0 ta1 ta2 ta3
    obtain ⟨w3, hw3⟩ : ∃ w3, w2.alloc (.cells #[.pointer none, .slice none 0 0] 67) = w3 := ⟨_, rfl⟩
    have HW3 := Lib.hid hw3
    have HB2 := Lib.hid (HB1.out.trans (hw2.mono HB1.out.size))
    have HBB : Hid (∀ W, Below w2.heap.size w3 W → Below w.heap.size w W) := Lib.hid (fun W h => HB2.out.trans (((show Below w2.heap.size w2 w3 by rw [← hw3]; exact (Below.refl _ _).alloc (Nat.le_refl _) _).trans h).mono HB2.out.size))
    have HLT := Lib.hid (show w2.heap.size < w3.heap.size by rw [← hw3]; simp)
    have HBX : Hid (∀ W, Below w2.heap.size w3 W → W.heap[w.heap.size]? = some (.cells #[.string ⟨a.pair.toArray⟩, .int .i64 a.serial, .slice A a.tree.length c, .slice B a.stamps.length d] 26 (0, 0))) :=
      Lib.hid (fun W h => ((show Below w2.heap.size w2 w3 by rw [← hw3]; exact (Below.refl _ _).alloc (Nat.le_refl _) _).trans h).block w.heap.size (by have := HS1.out; have := hw2.size; omega) |>.trans ((hw2.block w.heap.size (by have := HS1.out; omega)).trans HRA.out))
    have HWR : Hid (Wr w2.heap.size w2.heap.size [] w3 w3) := Lib.hid ⟨by rw [← hw3]; exact fresh_writer w2, Below.refl _ _, Lib.OthersKept.refl _ _ _⟩
    clear hw2 hw3
    go_upto_region 4 with (fail)
    rw [HW3.out]
    have ta0 := cell_of_row w3 _ 0 _ _ _ (HBX.out w3 (Below.refl _ _))
    go_wp2_with (fail)
    clear ta0
    refine (show Calls Tryz.prog 35 _ _ _ from texts_new w2.heap.size [] [magicB, a.pair] w3 w3 HWR.out HLT.out (by have := HKP.out.2.1; intro t ht; simp at ht; rcases ht with rfl | rfl; decide; omega) (by simp) (by simp)).mono ?_
    rintro e w4 ⟨rfl, hw4, -⟩
    rw [textsB_two, List.nil_append] at hw4
    have HW4 := Lib.hid hw4
    have tb1 := cell_of_row w4 _ 1 _ _ _ (HBX.out w4 hw4.2.1)
    have tb2 := cell_of_row w4 _ 2 _ _ _ (HBX.out w4 hw4.2.1)
    clear hw4
    go_wp2_with (fail)
    clear tb1 tb2
    refine (show Calls Tryz.prog 36 _ _ _ from nums_new w2.heap.size _ [a.serial, a.tree.length] w3 w4 HW4.out HLT.out (by have := HKP.out.2.2.1; have := HSM.out.1; intro t ht; simp at ht; rcases ht with rfl | rfl <;> omega) (by simp) (by have h1 := textB_length magicB; have h2 := textB_length a.pair; have h3 := HKP.out.2.1; have h0 : magicB.length = 8 := rfl; rw [List.length_append]; omega)).mono ?_
    rintro e w5 ⟨rfl, hw5, -⟩
    rw [numsB_two HKP.out.2.2.1 (by omega)] at hw5
    have HW5 : Hid (Wr w2.heap.size w2.heap.size (upA a 0) w3 w5) := Lib.hid (by rw [upA_zero]; unfold headB; simpa [numI, List.append_assoc] using hw5)
    have tb2 := cell_of_row w5 _ 2 _ _ _ (HBX.out w5 HW5.out.2.1)
    clear hw5 HW4
    go_wp2_with (fail)
    clear tb2
    go_loopw [26] (fun t26 W => ∃ i : Nat, i ≤ a.tree.length ∧ t26 = .int .i64 i ∧ Hid (Wr w2.heap.size w2.heap.size (upA a i) w3 W)) (fun t26 _ => a.tree.length - (intOf t26).toNat)
    case atStart => exact ⟨0, by omega, rfl, HW5⟩
    case round =>
      clear HW5
      obtain ⟨i, hi, rfl, HW⟩ := hrel
      have i0 : (0 : Int) ≤ i := by omega
      have e1 : IntKind.i64.wrap ((i : Int) + 1) = (i : Int) + 1 := IntWalk.i64_in _ (by omega)
      by_cases hlt : i < a.tree.length
      · have i1 : (i : Int) < a.tree.length := by omega
        have i2 : (i : Int) < a.stamps.length := by have := HKP.out.2.2.2.2.1; omega
        have hls : i < a.stamps.length := by omega
        obtain ⟨ad, rfl, c0, c1, c2, c3⟩ := node_cells (HAA.out _ (HBB.out _ HW.out.2.1)).rows hlt
        have HNX := Lib.hid (upA_next HKP.out.2.2.2.2.1 hlt)
        have HUP := Lib.hid (Nat.le_trans (upA_le HKP.out.2.2.2.2.1 (i + 1)) HPL.out)
        have hmem : (a.tree.getD i default, a.stamps.getD i default) ∈ a.tree.zip a.stamps := by
          have h1 : i < (a.tree.zip a.stamps).length := by rw [List.length_zip]; omega
          have h2 := List.getElem_mem h1
          rw [List.getElem_zip] at h2
          rw [List.getD_eq_getElem?_getD, List.getElem?_eq_getElem hlt, Option.getD_some, List.getD_eq_getElem?_getD, List.getElem?_eq_getElem hls, Option.getD_some]
          exact h2
        have HF := Lib.hid (HFT.out _ hmem)
        have HSC := Lib.hid (fun W (h : Below w2.heap.size w3 W) => stp_cells (HAA.out _ (HBB.out _ h)).stps hls)
        clear hmem
        rw [HNX.out] at HUP
        generalize a.tree.getD i default = nd at *
        generalize a.stamps.getD i default = st at *
        obtain ⟨wn, hwn⟩ : ∃ wn, wr.alloc (.cells (ndV nd).toArray 41) = wn := ⟨_, rfl⟩
        have HWN := Lib.hid hwn
        have HB0 := Lib.hid (show w2.heap.size ≤ w3.heap.size from Nat.le_of_lt HLT.out)
        have HNR := Lib.hid (show wn.heap[wr.heap.size]? = some (.cells (ndV nd).toArray 41 (0, 0)) by rw [← hwn]; exact heap_alloc_new _ _)
        have HNB := Lib.hid (show wr.heap.size ≠ w2.heap.size by have := HW.out.2.1.size; have := HLT.out; omega)
        have HW2 : Hid (Wr w2.heap.size w2.heap.size (upA a i) w3 wn) := Lib.hid (HW.out.below HB0.out (by rw [← hwn]; exact (Below.refl _ _).alloc (Nat.le_refl _) _))
        clear hwn
        unfold ndV at HWN HNR
        go_upto_region 9 with (fail)
        rw [HWN.out]
        have n0 := cell_of_row wn _ 0 _ _ _ HNR.out
        go_wp2_with (fail)
        clear n0
        refine (show Calls Tryz.prog 35 _ _ _ from texts_new w2.heap.size (upA a i) [nd.path] w3 wn HW2.out HLT.out (by have := HF.out.1; intro t ht; simp at ht; rw [ht]; exact Nat.le_trans this (by decide)) (by simp) (by have := HUP.out; simp only [List.length_append] at this; omega)).mono ?_
        rintro e wa ⟨rfl, hwa, hka⟩
        rw [textsB_one] at hwa
        have HWA := Lib.hid hwa
        have HNA := Lib.hid (hka _ _ HNR.out (by simpa using HNB.out) (fun c z e => by cases e))
        clear hwa hka
        have n1 := cell_of_row wa _ 1 _ _ _ HNA.out
        have n3 := cell_of_row wa _ 3 _ _ _ HNA.out
        go_wp2_with (fail)
        clear n1 n3
        refine (show Calls Tryz.prog 36 _ _ _ from nums_new w2.heap.size _ [nd.kind, nd.mode] w3 wa HWA.out HLT.out (by have h1 := HF.out.2.2.1; have h2 := HF.out.2.2.2.1; intro t ht; simp at ht; rcases ht with rfl | rfl; exact h1; exact h2) (by simp) (by have := HUP.out; simp only [List.length_append] at this ⊢; omega)).mono ?_
        rintro e wb ⟨rfl, hwb, hkb⟩
        rw [numsB_two HF.out.2.2.1.1 HF.out.2.2.2.1.1] at hwb
        have HWB := Lib.hid hwb
        have HNB2 := Lib.hid (hkb _ _ HNA.out (by simpa using HNB.out) (fun c z e => by cases e))
        clear hwb hkb
        have n2 := cell_of_row wb _ 2 _ _ _ HNB2.out
        go_wp2_with (fail)
        clear n2
        refine (show Calls Tryz.prog 35 _ _ _ from texts_new w2.heap.size _ [nd.data] w3 wb HWB.out HLT.out (by have := HF.out.2.1; intro t ht; simp at ht; rw [ht]; exact Nat.le_trans this (by decide)) (by simp) (by have := HUP.out; simp only [List.length_append] at this ⊢; omega)).mono ?_
        rintro e wc ⟨rfl, hwc, hkc⟩
        rw [textsB_one] at hwc
        have HWC := Lib.hid hwc
        clear hwc hkc
        have x3 := cell_of_row wc _ 3 _ _ _ (HBX.out wc HWC.out.2.1)
        obtain ⟨bd, rfl, s0, s1, s2⟩ := HSC.out wc HWC.out.2.1
        go_wp2_with (fail)
        refine wp_region_quiet_tail 18 (by kernel_rfl) (by kernel_rfl) ?_
        simp only [List.take, List.drop]
        repeat first
          | (go_big_quiet_want; refine quiet_load_cell 24 _ rfl _ rfl _ _ x3 Tryz.underlying24 rfl ?_; simp only [Act.put, List.setIfInBounds_toArray, List.set_cons_succ, List.set_cons_zero]; go_big_quiet_on)
          | (go_big_quiet_want; refine quiet_load_cell 3 _ rfl _ rfl _ _ s0 Tryz.underlying3 rfl ?_; simp only [Act.put, List.setIfInBounds_toArray, List.set_cons_succ, List.set_cons_zero]; go_big_quiet_on)
          | (go_big_quiet_want; refine quiet_load_cell 3 _ rfl _ rfl _ _ s1 Tryz.underlying3 rfl ?_; simp only [Act.put, List.setIfInBounds_toArray, List.set_cons_succ, List.set_cons_zero]; go_big_quiet_on)
          | (go_big_quiet_want; refine quiet_load_cell 3 _ rfl _ rfl _ _ s2 Tryz.underlying3 rfl ?_; simp only [Act.put, List.setIfInBounds_toArray, List.set_cons_succ, List.set_cons_zero]; go_big_quiet_on)
          | go_big_quiet_step (fail)
        refine wpQuiet_nil ?_
        intro W hW
        have HWD := Lib.hid (HWC.out.below HB0.out hW)
        clear hW x3 s0 s1 s2
        go_wp2_with (fail)
        refine (show Calls Tryz.prog 36 _ _ _ from nums_new w2.heap.size _ [st.ino, st.size, st.time] w3 W HWD.out HLT.out (by have h := HF.out.2.2.2.2; intro t ht; simp at ht; rcases ht with rfl | rfl | rfl; exact h.1; exact h.2.1; exact h.2.2) (by simp) (by have := HUP.out; simp only [List.length_append] at this ⊢; omega)).mono ?_
        rintro e we ⟨rfl, hwe, -⟩
        rw [numsB_three HF.out.2.2.2.2.1.1 HF.out.2.2.2.2.2.1.1 HF.out.2.2.2.2.2.2.1] at hwe
        have HWE : Hid (Wr w2.heap.size w2.heap.size (upA a (i + 1)) w3 we) := Lib.hid (by rw [HNX.out]; exact hwe)
        clear hwe
        go_wp2_with (fail)
        go_roundw
        case rel => exact ⟨i + 1, by omega, by go_num, HWE⟩
        case measure => simp [intOf]; omega
      · obtain rfl : i = a.tree.length := by omega
        have i1 : decide ((a.tree.length : Int) < (a.tree.length : Int)) = false := by rw [decide_eq_false_iff_not]; omega
        have HW6 : Hid (Wr w2.heap.size w2.heap.size (payA a) w3 wr) := by have := HW; rwa [upA_all HKP.out.2.2.2.2.1] at this
        go_wp2_with (fail)
        refine (StringW_any _ _ _ _ HW6.out.1 (by intro e; have := congrArg List.length e; unfold payA headB at this; have h1 := numB_pos a.tree.length; simp only [List.length_append, List.length_nil] at this; omega)).mono ?_
        rintro e wf ⟨rfl, hwf⟩
        have HBF := Lib.hid (HBB.out _ (HW6.out.2.1.trans hwf))
        clear hwf
        go_wp2_with (fail)
        refine (HPK.out _).mono ?_
        rintro e wg ⟨rfl, hwg⟩
        go_wp2_with (fail)
        go_ret2
        exact ⟨rfl, HBF.out.trans (hwg.mono HBF.out.size)⟩
end Go.Proofs.YtjajoiahgfafgaaGreatDoor
end

/- Whole rows: a store into a row of the call's own, a load of one. -/
section
namespace Go.Proofs.YtjajoiahgfafgaaGreatDoor
open Go.RowKit

theorem heap_setCells {e : TypeId} {g : Nat} : ∀ (vs : List Value) (o : Nat) (C : Array Value) (w : World), w.heap[g]? = some (.cells C e (0, 0)) → o + vs.length ≤ C.size →
    (w.setCells g o vs).heap[g]? = some (.cells (C.toList.take o ++ vs ++ C.toList.drop (o + vs.length)).toArray e (0, 0)) ∧ w.grownBy (w.setCells g o vs) (some g) ∧ (w.setCells g o vs).heap.size = w.heap.size
  | [], o, C, w, h, _ => ⟨by simpa [World.setCells] using h, gb_refl _ _, rfl⟩
  | v :: vs, o, C, w, h, hl => by
    simp only [List.length_cons] at hl
    have h1 := heap_set h o v
    obtain ⟨h2, h3, h4⟩ := heap_setCells vs (o + 1) (C.setIfInBounds o v) (w.setCell ⟨g, o, none⟩ v) h1 (by simp; omega)
    refine ⟨?_, ?_, ?_⟩
    · show (World.setCells (w.setCell ⟨g, o, none⟩ v) g (o + 1) vs).heap[g]? = _
      rw [h2]
      congr 2
      have e1 : (C.setIfInBounds o v).toList.take (o + 1) = C.toList.take o ++ [v] := by
        rw [Array.toList_setIfInBounds, List.take_set, List.take_succ_eq_append_getElem (by simp; omega)]
        rw [List.set_append_right _ _ (by simp; omega)]
        have hm : min o C.size = o := by omega
        simp [hm]
      have e2 : (C.setIfInBounds o v).toList.drop (o + 1 + vs.length) = C.toList.drop (o + (v :: vs).length) := by
        rw [Array.toList_setIfInBounds, List.drop_set_of_lt (by omega), List.length_cons]; congr 1; omega
      rw [e1, e2]; simp
    · show w.grownBy (World.setCells (w.setCell ⟨g, o, none⟩ v) g (o + 1) vs) (some g)
      have hs := gb_set (gb_refl w (some g)) (p := ⟨g, o, none⟩) (.inl rfl) v
      exact ⟨h3.os.trans hs.os, h3.tape.trans hs.tape, h3.output.trans hs.output, Nat.le_trans hs.size h3.size, fun i hi hne => (h3.block i (Nat.lt_of_lt_of_le hi hs.size) hne).trans (hs.block i hi hne)⟩
    · show (World.setCells (w.setCell ⟨g, o, none⟩ v) g (o + 1) vs).heap.size = _
      rw [h4]; simp [World.setCell]

/-- A whole row is stored. -/
theorem wpList_store_row {P : Program} {ops : Array Oper} {rest : List Oper} {op : Oper} {a : Act} {w : World} {Q : Exit → Act → World → Prop} (hgd : op.guard = none) (ty : TypeId) (x y : Operand) (ho : op.op = .store ty x y)
    (g : Nat) (cells C : Array Value) (e : TypeId) (hx : a.eval x = .pointer (some ⟨g, 0, none⟩)) (hy : a.eval y = .agg cells)
    (hg : w.heap[g]? = some (.cells C e (0, 0))) (hC : C.size = cells.size) (hi : (P.info? ty).map (·.size) = some cells.size) (h1 : cells.all (·.oneCell') = true)
    (h : ∀ w', w.grownBy w' (some g) → w'.heap.size = w.heap.size → w'.heap[g]? = some (.cells cells e (0, 0)) → wpList P ops Q rest (a.put op.dst undef) w') : wpList P ops Q (op :: rest) a w := by
  obtain ⟨h2, h3, h4⟩ := heap_setCells cells.toList 0 C w hg (by simp [hC])
  refine wpList_store_mid hgd ty x y ho g 0 cells hx hy (fun j hj => ?_) hi h1 (h _ h3 h4 ?_)
  · refine ⟨?_, frozen_of_row w g _ C e hg⟩
    rw [cell_of_row w g _ C e _ hg]
    simp [hC, hj]
  · rw [h2, List.take_zero, List.drop_eq_nil_of_le (by simp [hC])]; simp

theorem heap_new' (W : World) (o : Obj) (n : Nat) (h : W.heap.size = n) : (W.alloc o).heap[n]? = some o := by subst h; exact heap_alloc_new W o
theorem heap_old' {W : World} {o x : Obj} {n : Nat} (h : W.heap[n]? = some x) : (W.alloc o).heap[n]? = some x := by
  rw [Below.heap_alloc _ _ _ (Array.getElem?_eq_some_iff.1 h).1]; exact h

end Go.Proofs.YtjajoiahgfafgaaGreatDoor
end

/- Rows of structs: a list of values, each of so many cells, in a row of the call's own. -/
section
namespace Go.Proofs.YtjajoiahgfafgaaGreatDoor
open Go.RowKit

section
variable {α : Type}
def rowsE (enc : α → List Value) (l : List α) : List Value := l.flatMap enc
variable {enc : α → List Value} {m : Nat}
theorem rowsE_cons (x : α) (l : List α) : rowsE enc (x :: l) = enc x ++ rowsE enc l := by simp [rowsE]
theorem rowsE_append (l k : List α) : rowsE enc (l ++ k) = rowsE enc l ++ rowsE enc k := by simp [rowsE]
theorem rowsE_one (x : α) : rowsE enc [x] = enc x := by simp [rowsE]
theorem rowsE_nil : rowsE enc [] = [] := rfl
theorem rowsE_length (hm : ∀ x, (enc x).length = m) (l : List α) : (rowsE enc l).length = l.length * m := by
  induction l with
  | nil => simp [rowsE]
  | cons x l ih => rw [rowsE_cons, List.length_append, hm, ih, List.length_cons, Nat.add_mul]; omega
theorem rowsE_oneCell (h1 : ∀ x, ∀ u ∈ enc x, u.oneCell' = true) (l : List α) : ∀ u ∈ rowsE enc l, u.oneCell' = true := by
  intro u hu
  obtain ⟨x, -, hx⟩ := List.mem_flatMap.1 hu
  exact h1 x u hx
theorem rowsE_get (hm : ∀ x, (enc x).length = m) (l : List α) : ∀ (j : Nat) (h : j < l.length) (i : Nat), i < m → (rowsE enc l)[j * m + i]? = (enc l[j])[i]? := by
  induction l with
  | nil => intro j h; simp at h
  | cons x l ih =>
    intro j h i hi
    rw [rowsE_cons]
    cases j with
    | zero => rw [List.getElem?_append_left (by rw [hm]; omega)]; simp
    | succ j =>
      rw [List.getElem?_append_right (by rw [hm, Nat.add_mul]; omega), hm, List.getElem_cons_succ, ← ih j (by simpa using h) i hi]
      congr 1; rw [Nat.add_mul]; omega
theorem rowsE_set (hm : ∀ x, (enc x).length = m) (l : List α) : ∀ (j : Nat) (_ : j < l.length) (x : α), rowsE enc (l.set j x) = (rowsE enc l).take (j * m) ++ enc x ++ (rowsE enc l).drop (j * m + m) := by
  induction l with
  | nil => intro j h; simp at h
  | cons y l ih =>
    intro j h x
    cases j with
    | zero =>
      rw [List.set_cons_zero, rowsE_cons, rowsE_cons]
      simp [hm]
    | succ j =>
      rw [List.set_cons_succ, rowsE_cons, rowsE_cons, ih j (by simpa using h) x]
      have h1 : (enc y).take ((j + 1) * m) = enc y := List.take_of_length_le (by rw [hm, Nat.add_mul]; omega)
      have h2 : (enc y).drop ((j + 1) * m + m) = [] := List.drop_eq_nil_of_le (by rw [hm, Nat.add_mul]; omega)
      rw [List.take_append, List.drop_append, hm, h1, h2]
      rw [show (j + 1) * m - m = j * m by rw [Nat.add_mul]; omega, show (j + 1) * m + m - m = j * m + m by rw [Nat.add_mul]; omega]
      simp
theorem rows_mid {A vs : List Value} {o k : Nat} (hv : vs.length = m) (h1 : o + m ≤ k) (h2 : k ≤ A.length) : (A.take o ++ vs ++ A.drop (o + m)).take k = (A.take k).take o ++ vs ++ (A.take k).drop (o + m) := by
  have hl : (A.take o ++ vs).length = o + m := by simp [hv]; omega
  rw [List.take_append, hl, List.take_of_length_le (by omega), List.take_take, Nat.min_eq_left (by omega), List.drop_take]

variable {w w' : World} {base g c : Nat} {t : TypeId} {l : List α}
theorem rowsE_some {v : Value} (h : w.ownsRow base t m v l.length (rowsE enc l)) (hn : 0 < l.length) : ∃ g c, v = .slice (some ⟨g, 0, none⟩) l.length c ∧ base ≤ g ∧ g < w.heap.size := by
  rcases h.2 with ⟨h1, h2⟩ | ⟨g, cap, cur, h1, h2, h3, -⟩
  · omega
  · exact ⟨g, cap, h1, h2, (Array.getElem?_eq_some_iff.1 h3).1⟩
theorem rowsE_cell (hm : ∀ x, (enc x).length = m) (h : w.ownsRow base t m (.slice (some ⟨g, 0, none⟩) l.length c) l.length (rowsE enc l)) {j : Nat} (hj : j < l.length) {i : Nat} (hi : i < m) : w.cell? ⟨g, j * m + i, none⟩ = (enc l[j])[i]? := by
  have h1 := rowsE_get hm l j hj i hi
  have h2 : i < (enc l[j]).length := by rw [hm]; exact hi
  rw [List.getElem?_eq_getElem h2] at h1 ⊢
  have := h.cells (g := g) rfl (j * m + i) _ h1
  simpa [Addr.add_mid] using this
theorem rowsE_frozen (h : w.ownsRow base t m (.slice (some ⟨g, 0, none⟩) l.length c) l.length (rowsE enc l)) (i : Nat) : w.frozen? ⟨g, i, none⟩ = false := by
  rcases h.2 with ⟨h1, h2⟩ | ⟨g', cap, cur, h1, h2, h3, -⟩
  · cases h1
  · injection h1 with h1 _ _
    injection h1 with h1
    injection h1 with h1 _ _
    subst h1
    exact frozen_of_row w g _ _ _ h3
theorem rowsE_there (hm : ∀ x, (enc x).length = m) (h : w.ownsRow base t m (.slice (some ⟨g, 0, none⟩) l.length c) l.length (rowsE enc l)) {j : Nat} (hj : j < l.length) : w.there g (j * m) m := by
  intro i hi
  refine ⟨?_, rowsE_frozen h _⟩
  rw [rowsE_cell hm h hj hi, List.getElem?_eq_getElem (by rw [hm]; exact hi)]; rfl
theorem rowsE_range (hm : ∀ x, (enc x).length = m) (h : w.ownsRow base t m (.slice (some ⟨g, 0, none⟩) l.length c) l.length (rowsE enc l)) {j : Nat} (hj : j < l.length) : w.rangeAt g (j * m) (enc l[j]) := by
  intro i v hv
  have hi : i < m := by have := (List.getElem?_eq_some_iff.1 hv).1; rwa [hm] at this
  rw [rowsE_cell hm h hj hi]; exact hv
theorem rowsE_setrow (hm : ∀ x, (enc x).length = m) (h : w.ownsRow base t m (.slice (some ⟨g, 0, none⟩) l.length c) l.length (rowsE enc l)) {j : Nat} (hj : j < l.length) (x : α) :
    (w.setCells g (j * m) (enc x)).ownsRow base t m (.slice (some ⟨g, 0, none⟩) l.length c) l.length (rowsE enc (l.set j x)) ∧ w.grownBy (w.setCells g (j * m) (enc x)) (some g) := by
  rcases h.2 with ⟨h1, h2⟩ | ⟨g', cap, cur, h1, h2, h3, h4, h5, h6, h7⟩
  · cases h1
  · injection h1 with h1 _ h1c
    injection h1 with h1
    injection h1 with h1 _ _
    subst h1 h1c
    have hle : (j + 1) * m ≤ l.length * m := Nat.mul_le_mul_right m hj
    have hle2 : l.length * m ≤ c * m := Nat.mul_le_mul_right m h4
    rw [Nat.add_mul] at hle
    obtain ⟨e1, e2, e3⟩ := heap_setCells (enc x) (j * m) cur w h3 (by rw [hm, h6]; omega)
    rw [hm] at e1
    refine ⟨⟨by rw [rowsE_length hm, List.length_set], .inr ⟨g, c, _, rfl, h2, e1, h4, h5, ?_, ?_⟩⟩, e2⟩
    · simp [hm]; omega
    · show (List.take _ _) = _
      rw [rows_mid (hm x) (by omega) (by simp; omega), h7, rowsE_set hm l j hj x]
/-- one cell of a row is stored -/
theorem rowsE_setcell (hm : ∀ x, (enc x).length = m) (h : w.ownsRow base t m (.slice (some ⟨g, 0, none⟩) l.length c) l.length (rowsE enc l)) {j : Nat} (hj : j < l.length) {i : Nat} (hi : i < m) (u : Value) (x : α) (hx : enc x = (enc l[j]).set i u) :
    (w.setCell ⟨g, j * m + i, none⟩ u).ownsRow base t m (.slice (some ⟨g, 0, none⟩) l.length c) l.length (rowsE enc (l.set j x)) ∧ w.grownBy (w.setCell ⟨g, j * m + i, none⟩ u) (some g) := by
  have hle : (j + 1) * m ≤ l.length * m := Nat.mul_le_mul_right m hj
  rw [Nat.add_mul] at hle
  refine ⟨?_, gb_set (gb_refl w _) (.inl rfl) u⟩
  rcases h.2 with ⟨h1, h2⟩ | ⟨g', cap, cur, h1, h2, h3, h4, h5, h6, h7⟩
  · cases h1
  · injection h1 with h1 _ h1c
    injection h1 with h1
    injection h1 with h1 _ _
    subst h1 h1c
    refine ⟨by rw [rowsE_length hm, List.length_set], .inr ⟨g, c, _, rfl, h2, heap_set h3 _ u, h4, h5, by simpa using h6, ?_⟩⟩
    rw [Array.toList_setIfInBounds, List.take_set, h7, rowsE_set hm l j hj x, hx]
    have hl := rowsE_length hm l
    have hlj := hm l[j]
    have e1 : (rowsE enc l).take (j * m) ++ enc l[j] ++ (rowsE enc l).drop (j * m + m) = rowsE enc l := by
      rw [← rowsE_set hm l j hj l[j]]; simp
    conv => lhs; rw [← e1]
    rw [List.append_assoc, List.append_assoc, List.set_append_right _ _ (by simp; omega), List.length_take, hl, Nat.min_eq_left (by omega), show j * m + i - j * m = i by omega, List.set_append_left _ _ (by omega)]
end
end Go.Proofs.YtjajoiahgfafgaaGreatDoor
end


section
namespace Go.Proofs.YtjajoiahgfafgaaGreatDoor
open Go.RowKit Plain

set_option maxHeartbeats 400000 in
theorem Crc_ref (s : List UInt8) (w : World) (hs : s.length ≤ 9223372036854775807) :
    Calls Tryz.prog 69 #[.string ⟨s.toArray⟩] w (Ret w (.int .u32 (crc s))) := by
  go_enter Tryz.func69, Tryz.ntmps69
  go_wp2_with (fail)
  go_loop [3, 4, 5] (fun t3 t4 _ => ∃ i : Nat, i ≤ s.length ∧ t4 = .int .i64 i ∧ t3 = .int .u32 (crcRun (s.take i) : Nat)) (fun _ t4 _ => s.length - (intOf t4).toNat)
  case atStart => exact ⟨0, by omega, rfl, rfl⟩
  case round =>
    obtain ⟨i, hi, rfl, rfl⟩ := hrel
    have hv := crcRun_lt (s.take i)
    by_cases hlt : i < s.length
    · have hstep : crcRun (s.take (i + 1)) = bits1 8 (crcRun (s.take i) ^^^ s[i].toNat) := by
        unfold crcRun
        rw [List.take_succ_eq_append_getElem hlt, List.foldl_append]
        rfl
      have hc : s[i].toNat < 256 := s[i].toNat_lt
      have e1 := u32_xor_nat (crcRun (s.take i)) s[i].toNat hv (by omega)
      have hx := xor_lt hv (show s[i].toNat < 4294967296 by omega)
      generalize hxx : crcRun (s.take i) ^^^ s[i].toNat = x at *
      have HS := Lib.hid hstep
      have HX := Lib.hid hxx
      clear hstep hxx
      generalize crcRun (s.take i) = v at *
      generalize hci : s[i] = c at *
      go_wp2_with (fail)
      go_loop [3, 5] (fun t3 t5 => ∃ j : Nat, j ≤ 8 ∧ t5 = .int .i64 j ∧ t3 = .int .u32 (bits1 j x : Nat)) (fun _ t5 => 8 - (intOf t5).toNat)
      case atStart => exact ⟨0, by omega, rfl, rfl⟩
      case round =>
        obtain ⟨j, hj, rfl, rfl⟩ := hrel
        have hb := bits1_lt (n := j) hx
        by_cases hlt : j < 8
        · generalize hy : bits1 j x = y at *
          have HY := Lib.hid hy
          clear hy
          rcases Nat.mod_two_eq_zero_or_one y with h2 | h2
          · have hB : ((y : Int) % 2 == 1) = false := by rw [show (y : Int) % 2 = 0 by omega]; rfl
            have H2 := Lib.hid h2
            clear h2
            go_wp2_with (fail)
            go_round
            case rel => exact ⟨j + 1, by omega, by go_num, by rw [bit1_ref0 y H2.out, ← HY.out]; rfl⟩
            case measure => simp [intOf]; omega
          · have hB : ((y : Int) % 2 == 1) = true := by rw [show (y : Int) % 2 = 1 by omega]; rfl
            have H2 := Lib.hid h2
            clear h2
            go_wp2_with (fail)
            go_round
            case rel => exact ⟨j + 1, by omega, by go_num, by rw [bit1_ref1 y hb H2.out, ← HY.out]; rfl⟩
            case measure => simp [intOf]; omega
        · obtain rfl : j = 8 := by omega
          go_wp2_with (fail)
          go_round
          case rel => exact ⟨i + 1, by omega, by go_num, by rw [HS.out]⟩
          case measure => simp [intOf]; omega
    · obtain rfl : i = s.length := by omega
      go_wp2_with (fail)
      go_ret
      refine ⟨?_, Below.refl _ _⟩
      have h := u32_xor_nat (crcRun s) 4294967295 (crcRun_lt s) (by omega)
      simp only [Array.getD_eq_getD_getElem?, List.getElem?_toArray, List.getElem?_cons_succ, List.getElem?_cons_zero, Option.getD_some]
      exact ret_int h
end Go.Proofs.YtjajoiahgfafgaaGreatDoor
end

/- The document's records: what each function answers. -/
section
namespace Go.Proofs.YtjajoiahgfafgaaGreatDoor
open Go.RowKit Plain

set_option maxHeartbeats 400000 in
theorem Pack_ref1 (p : List UInt8) (w : World) (hp : p.length ≤ 1048576) :
    Calls Tryz.prog 41 #[.string ⟨p.toArray⟩] w (Ret w (.tuple #[.string ⟨(record p).toArray⟩, .int .i64 0])) := by
  have hl := crc_lt (four p.length ++ p)
  have hf : (four p.length).length = 4 := rfl
  have hf2 : (four (crc (four p.length ++ p))).length = 4 := rfl
  go_enter Tryz.func41, Tryz.ntmps41
  go_wp2_with (fail)
  refine (Ret.quiet (Below.refl _ _) (four_ref _ _ (by omega))).mono ?_
  rintro e w1 ⟨rfl, hb1⟩
  go_wp2_with (fail)
  refine (Ret.quiet (hb1) (Crc_ref _ _ (by simp; omega))).mono ?_
  rintro e w2 ⟨rfl, hb2⟩
  go_wp2_with (fail)
  refine (Ret.quiet (hb2) (four_ref _ _ hl)).mono ?_
  rintro e w3 ⟨rfl, hb3⟩
  go_wp2_with (fail)
  go_ret2
  refine ⟨?_, hb3⟩
  simp [record]
set_option maxHeartbeats 400000 in
theorem Pack_ref2 (p : List UInt8) (w : World) (hs : p.length ≤ 9223372036854775807) (hp : 1048576 < p.length) :
    Calls Tryz.prog 41 #[.string ⟨p.toArray⟩] w (Ret w (.tuple #[.string ⟨#[]⟩, .int .i64 32])) := by
  go_enter Tryz.func41, Tryz.ntmps41
  go_wp2_with (fail)
  go_ret2
  exact ⟨rfl, Below.refl _ _⟩

theorem Pack_ref (p : List UInt8) (w : World) (hs : p.length ≤ 9223372036854775807) :
    Calls Tryz.prog 41 #[.string ⟨p.toArray⟩] w (Ret w (.tuple #[.string ⟨(pack p).1.toArray⟩, .int .i64 (pack p).2])) := by
  rcases Nat.lt_or_ge 1048576 p.length with h | h
  · rw [pack_more h]; exact Pack_ref2 p w hs h
  · rw [pack_ok h]; exact Pack_ref1 p w h

set_option maxHeartbeats 400000 in
theorem Next_ref (s : List UInt8) (w : World)  (hs : s.length ≤ 9223372036854775807) :
    Calls Tryz.prog 61 #[.string ⟨s.toArray⟩] w (Ret w (.tuple #[.string ⟨(next s).1.toArray⟩, .string ⟨(next s).2.1.toArray⟩, .int .i64 (next s).2.2])) := by
  have hn := num_lt s
  go_enter Tryz.func61, Tryz.ntmps61
  go_wp2_with (fail)
  · go_ret3
    refine ⟨?_, Below.refl _ _⟩
    rw [next_short (by omega)]
    rfl
  refine (Ret.quiet (Below.refl _ _) (number_ref s 0 _ (by omega) (by omega))).mono ?_
  rintro e w1 ⟨rfl, hb1⟩
  go_wp2_with (fail)
  · go_ret3
    refine ⟨?_, hb1⟩
    rw [next_more (by omega) (by omega)]
    rfl
  · go_ret3
    refine ⟨?_, hb1⟩
    rw [next_cut (by omega) (by omega) (by omega)]
    rfl
  have l1 : (List.take 4 s ++ List.take (num s) (List.drop 8 s)).length = 4 + num s := by simp; omega
  have l2 : (4 : Int) ≤ s.length := by omega
  have l3 : 8 + num s - 8 = num s := by omega
  by_cases h3 : num (s.drop 4) = crc (s.take 4 ++ (s.drop 8).take (num s))
  · have hB : ((num (s.drop 4) : Int) != (crc (s.take 4 ++ (s.drop 8).take (num s)) : Int)) = false := by rw [h3]; simp
    have H3 := Lib.hid h3
    clear h3
    refine wp_region_below (by kernel_rfl) (by kernel_rfl) ?_
    repeat (go_big_quiet_step ((intro hW; first | (go_at_call 90; exact Ret.quiet hW (number_ref s 4 _ (by omega) (by omega))) | (go_at_call 69; exact Ret.quiet hW (Crc_ref _ _ (by simp; omega))))))
    refine wpQuiet_nil ?_
    intro W3 hW3
    go_wp2_with (fail)
    have k1 : IntKind.i64.wrap (8 + (num s : Int)) = 8 + (num s : Int) := IntWalk.i64_in _ (by omega)
    have z1 : (0 : Int) ≤ 8 + (num s : Int) := by omega
    refine wp_region_below (by kernel_rfl) (by kernel_rfl) ?_
    repeat (go_big_quiet_step (fail))
    refine wpQuiet_nil ?_
    intro W4 hW4
    go_wp2_with (fail)
    go_ret3
    refine ⟨?_, (hb1.trans (hW3.mono hb1.size)).trans (hW4.mono (Nat.le_trans hb1.size hW3.size))⟩
    rw [next_ok (by omega) (by omega) (by omega) H3.out]
    simp only [Array.getD_eq_getD_getElem?, List.getElem?_toArray, List.getElem?_cons_succ, List.getElem?_cons_zero, Option.getD_some, Nat.add_sub_cancel_left]
    rfl
  · have hB : ((num (s.drop 4) : Int) != (crc (s.take 4 ++ (s.drop 8).take (num s)) : Int)) = true := by simpa using (by omega : (num (s.drop 4) : Int) ≠ (crc (s.take 4 ++ (s.drop 8).take (num s)) : Int))
    have H3 := Lib.hid h3
    clear h3
    refine wp_region_below (by kernel_rfl) (by kernel_rfl) ?_
    repeat (go_big_quiet_step ((intro hW; first | (go_at_call 90; exact Ret.quiet hW (number_ref s 4 _ (by omega) (by omega))) | (go_at_call 69; exact Ret.quiet hW (Crc_ref _ _ (by simp; omega))))))
    refine wpQuiet_nil ?_
    intro W3 hW3
    go_wp2_with (fail)
    go_ret3
    refine ⟨?_, hb1.trans (hW3.mono hb1.size)⟩
    rw [next_sum (by omega) (by omega) (by omega) H3.out]
    rfl

set_option maxHeartbeats 400000 in
theorem One_any (s : List UInt8) (w : World)  (hs : s.length ≤ 9223372036854775807) :
    Calls Tryz.prog 23 #[.string ⟨s.toArray⟩] w (Ret w (.tuple #[.string ⟨(one s).1.toArray⟩, .int .i64 (one s).2])) := by
  go_enter Tryz.func23, Tryz.ntmps23
  go_wp2_with (fail)
  refine (Ret.quiet (Below.refl _ _) (Next_any s _ hs)).mono ?_
  rintro e w1 ⟨rfl, hb1⟩
  go_wp2_with (fail)
  · go_ret2
    refine ⟨?_, hb1⟩
    rw [one_more (by assumption)]
    rfl
  · go_ret2
    refine ⟨?_, hb1⟩
    rw [one_ok (by assumption)]
    rfl
set_option maxHeartbeats 400000 in
theorem One_ref (s : List UInt8) (w : World)  (hs : s.length ≤ 9223372036854775807) :
    Calls Tryz.prog 29 #[.string ⟨s.toArray⟩] w (Ret w (.tuple #[.string ⟨(one s).1.toArray⟩, .int .i64 (one s).2])) := by
  by_cases he : (next s).2.2 = 0
  · have hB : (((next s).2.2 : Int) == 0) = true := by rw [he]; rfl
    have HE := Lib.hid he
    clear he
    go_enter Tryz.func29, Tryz.ntmps29
    go_wp2_with (fail)
    refine (Ret.quiet (Below.refl _ _) (Next_ref s _ hs)).mono ?_
    rintro e w1 ⟨rfl, hb1⟩
    go_wp2_with (fail)
    · go_ret2
      refine ⟨?_, hb1⟩
      rw [one_more (by assumption)]
      rfl
    · go_ret2
      refine ⟨?_, hb1⟩
      rw [one_ok (by assumption)]
      rfl
  · have hB : (((next s).2.2 : Int) == 0) = false := by simpa using (by omega : ((next s).2.2 : Int) ≠ 0)
    go_enter Tryz.func29, Tryz.ntmps29
    go_wp2_with (fail)
    refine (Ret.quiet (Below.refl _ _) (Next_ref s _ hs)).mono ?_
    rintro e w1 ⟨rfl, hb1⟩
    go_wp2_with (fail)
    go_ret2
    refine ⟨?_, hb1⟩
    rw [one_ok (by rw [(next_err s he).2]; rfl)]
    rfl
end Go.Proofs.YtjajoiahgfafgaaGreatDoor
end

/- A region that draws its order: a condition on the world that holds behind each operation but the last one, which turns what the condition tells. -/
section
namespace Go.Proofs.YtjajoiahgfafgaaGreatDoor
open Go

section
variable {P : Program} {ops : Array Oper} {Q : Exit → Act → World → Prop} {md : Region.Mode} {S : World → Prop} {n : Nat}

def wpAnyN (P : Program) (md : Region.Mode) (ops : Array Oper) (Q : Exit → Act → World → Prop) (S : World → Prop) (n : Nat) : Nat → Array Bool → Act → World → Prop
  | 0, listed, a, w => Region.ready md ops listed = [] ∧ Q .normal a w
  | fuel + 1, listed, a, w =>
    (Region.ready md ops listed = [] → Q .normal a w) ∧
    ∀ i ∈ Region.ready md ops listed, wpOp P ops Q i (fun a' w' => (i ≠ n → S w') ∧ wpAnyN P md ops Q S n fuel (listed.setIfInBounds i true) a' w') a w

theorem wpAny_of_heldN : ∀ (fuel : Nat) (listed : Array Bool) (a : Act) (w : World), wpAnyN P md ops Q S n fuel listed a w → wpAny P md ops Q fuel listed a w
  | 0, _, _, _, h => h
  | fuel + 1, _, _, _, h => ⟨h.1, fun i hi => wpOp_mono (fun a' w' h' => wpAny_of_heldN fuel _ a' w' h'.2) (h.2 i hi)⟩

theorem wpAnyN_first {i : Nat} {oi : Oper} {v : Value} (hi : ops[i]? = some oi) (hwait : Region.waitsFor md ops n i = true) (hsel : ∀ (j : Nat) (o : Oper) cs b, ops[j]? = some o → o.op ≠ .select cs b)
    (hQ : ∀ c a w, Q (.panic c) (a.put oi.dst v) w → Q (.panic c) a w) :
    ∀ (fuel : Nat) (listed : Array Bool) (a : Act) (w : World),
      (∀ j oj, ops[j]? = some oj → j ≠ i → listed.getD j true = false → (∀ e ∈ oj.after, Region.binds md e = true → e.on ≠ i) → oi.apart ops oj = true) →
      i ∈ Region.ready md ops listed → YieldsIf P ops S oi v a → S w →
      wpAnyN P md ops Q S n fuel (listed.setIfInBounds i true) (a.put oi.dst v) w → wpAnyN P md ops Q S n (fuel + 1) listed a w := by
  intro fuel
  induction fuel with
  | zero =>
    intro listed a w _ hr hy hS H
    refine ⟨fun h => (by rw [h] at hr; cases hr), fun j hj => ?_⟩
    by_cases hji : j = i
    · subst hji; exact hy.wpOp hi hS ⟨fun _ => hS, H⟩
    · have := ready_mono hj hji
      rw [H.1] at this
      cases this
  | succ fuel ih =>
    intro listed a w hfree hr hy hS H
    refine ⟨fun h => (by rw [h] at hr; cases hr), fun j hj => ?_⟩
    by_cases hji : j = i
    · subst hji; exact hy.wpOp hi hS ⟨fun _ => hS, H⟩
    · have h1 := H.2 j (ready_mono hj hji)
      obtain ⟨hjun, oj, hoj, hall⟩ := mem_ready.1 hj
      have hnot : ∀ e ∈ oj.after, Region.binds md e = true → e.on ≠ i := fun e he hb heq => by
        have h1 := hall e he hb
        have h0 := (mem_ready.1 hr).1
        rw [heq] at h1
        rcases Nat.lt_or_ge i listed.size with h' | h'
        · simp [h'] at h0 h1; rw [h0] at h1; cases h1
        · simp [Array.getElem?_eq_none h'] at h1
      have hjn : j ≠ n := by
        rintro rfl
        obtain ⟨o', ho', e, he, hb, hon⟩ := Region.waitsFor_spec hwait
        have : o' = oj := Option.some.inj (ho'.symm.trans hoj)
        subst this
        exact hnot e he hb hon
      have h2 := wpOp_putIf hoj (hfree j oj hoj hji hjun hnot) (fun cs b => hsel i oi cs b hi) (fun cs b => hsel j oj cs b hoj) hQ hy h1
      have hfree' : ∀ k ok, ops[k]? = some ok → k ≠ i → (listed.setIfInBounds j true).getD k true = false →
          (∀ e ∈ ok.after, Region.binds md e = true → e.on ≠ i) → oi.apart ops ok = true := fun k ok hk hki hun hno => by
        refine hfree k ok hk hki ?_ hno
        by_cases hjk : j = k
        · subst hjk; exact hjun
        · rw [getD_set_ne true hjk] at hun; exact hun
      refine wpOp_mono (fun a' w' h3 => ⟨h3.2.1, ih (listed.setIfInBounds j true) a' w' hfree' (ready_mono hr (Ne.symm hji)) h3.1 (h3.2.1 hjn) ?_⟩) h2
      rw [Array.setIfInBounds_comm _ _ hji]
      exact h3.2.2

theorem wpAnyN_take {i : Nat} {oi : Oper} {v : Value} {fuel : Nat} {listed : Array Bool} {a : Act} {w : World} (hi : ops[i]? = some oi) (hwait : Region.waitsFor md ops n i = true)
    (hs : Region.noSelect ops = true) (hf : Region.free md ops listed i = true) (hr : (Region.ready md ops listed).contains i = true)
    (hQ : ∀ c a w, Q (.panic c) (a.put oi.dst v) w → Q (.panic c) a w) (hy : YieldsIf P ops S oi v a) (hS : S w)
    (h : wpAnyN P md ops Q S n fuel (listed.setIfInBounds i true) (a.put oi.dst v) w) : wpAnyN P md ops Q S n (fuel + 1) listed a w :=
  wpAnyN_first hi hwait (Region.noSelect_spec hs) hQ fuel listed a w (Region.free_spec hi hf) (by simpa using hr) hy hS h

theorem wpAnyN_done {listed : Array Bool} {a : Act} {w : World} (hr : Region.ready md ops listed = []) (h : Q .normal a w) :
    ∀ fuel, wpAnyN P md ops Q S n fuel listed a w
  | 0 => ⟨hr, h⟩
  | _ + 1 => ⟨fun _ => h, by rw [hr]; simp⟩

theorem wp_region_heldN {id : Nat} {a : Act} {w : World} (n : Nat) (hm : P.follows .mixedOrders = true) (hS : S w.drew)
    (h : S w.drew → wpAnyN P .any ops Q S n ops.size (Array.replicate ops.size false) a w.drew) : (Code.region id ops true).wp P Q a w :=
  wp_region_any hm (wpAny_of_heldN _ _ _ _ (h hS))

/-- The one operation that comes up next; it is not the last. -/
theorem wpAnyN_one {i : Nat} {o : Oper} {fuel : Nat} {listed : Array Bool} {a : Act} {w : World} (hr : Region.ready md ops listed = [i]) (ho : ops[i]? = some o)
    (h : ∀ K' : Act → World → Prop, Shut (∀ a w, S w → (S w → wpAnyN P md ops Q S n fuel (listed.setIfInBounds i true) a w) → K' a w) → if Region.wanted o (yielded ops a.tmps) = true then Oper.wp P o a w K' Q else K' (a.put o.dst undef) w) :
    wpAnyN P md ops Q S n (fuel + 1) listed a w := by
  refine ⟨fun h0 => absurd (hr ▸ h0) (by simp), ?_⟩
  rw [hr]
  intro j hj
  obtain rfl : j = i := by simpa using hj
  exact wpOp_step ho (fun K' hK => h K' (fun a w hS hW => hK a w ⟨fun _ => hS, hW hS⟩))
/-- The last one. -/
theorem wpAnyN_last {o : Oper} {fuel : Nat} {listed : Array Bool} {a : Act} {w : World} (hr : Region.ready md ops listed = [n]) (ho : ops[n]? = some o) (hr2 : Region.ready md ops (listed.setIfInBounds n true) = [])
    (h : ∀ K' : Act → World → Prop, Shut (∀ a w, Q .normal a w → K' a w) → if Region.wanted o (yielded ops a.tmps) = true then Oper.wp P o a w K' Q else K' (a.put o.dst undef) w) :
    wpAnyN P md ops Q S n (fuel + 1) listed a w := by
  refine ⟨fun h0 => absurd (hr ▸ h0) (by simp), ?_⟩
  rw [hr]
  intro j hj
  obtain rfl : j = n := by simpa using hj
  exact wpOp_step ho (fun K' hK => h K' (fun a w hW => hK a w ⟨fun h0 => absurd rfl h0, wpAnyN_done hr2 hW _⟩))
end
end Go.Proofs.YtjajoiahgfafgaaGreatDoor
end
