/- hawserlaw17.MergeRuns: what whatever program makes of three texts is the document's. -/
import Derived.Test.YtgbiddjkjdggpaaDoorRunRef
import Derived.Test.YtgbiddjkjdggpaaDoorCellMax
import Derived.Test.YtgbiddjkjdggpaaDoorCard
import Derived.Deep.RegionHeld3

namespace Go.Proofs.YtgbiddjkjdggpaaDoor
open Go.RowKit Plain

set_option maxHeartbeats 1500000 in
theorem MergeRuns_core (p o a b : List UInt8) (res : List UInt8 × Int) (kn : Bool) (m : Int) (w : World) (ho : o.length ≤ 3000) (ha : a.length ≤ 3000) (hb : b.length ≤ 3000) (hm : w.cell? ⟨0, 0, none⟩ = some (.int .i64 m))
    (hR : ∀ W, W.cell? ⟨0, 0, none⟩ = some (.int .i64 m) → Calls Tryd.prog 8 #[.string ⟨p.toArray⟩, .string ⟨o.toArray⟩, .string ⟨a.toArray⟩, .string ⟨b.toArray⟩] W (RunOut W res))
    (hRR : ∀ W, Calls Tryd.prog 9 #[.string ⟨p.toArray⟩, .string ⟨o.toArray⟩, .string ⟨a.toArray⟩, .string ⟨b.toArray⟩] W (RunOut W res))
    (hk : knownM p = kn) (hkr : kn = false → res.2 = 170) :
    Calls Tryd.prog 3 #[.string ⟨p.toArray⟩, .agg #[.string ⟨o.toArray⟩, .string ⟨a.toArray⟩, .string ⟨b.toArray⟩]] w (Ret w (.bool true)) := by
  have hmlt := World.block_lt_of_cell? _ _ hm
  have hB0 : Below w.heap.size w (w.alloc (.cells #[.string ⟨o.toArray⟩, .string ⟨a.toArray⟩, .string ⟨b.toArray⟩] 23)) := (Below.refl _ _).alloc (Nat.le_refl _) _
  have hm0 := (hB0.cell (p := ⟨0, 0, none⟩) hmlt).trans hm
  have HAW := Lib.hid (awake_any m _ hm0)
  have hK := fun W => Known_any p W
  rw [knowns_M, hk] at hK
  have hKR := fun W => RKnown_any p W
  rw [hk] at hKR
  have HLA := Lib.hid (fun W h => Lines_any o m W (by omega) h)
  have HLB := Lib.hid (fun W => Lines_ref o W (by omega))
  have hll := linesL_length o
  generalize linesL o = L at *
  have HT := Lib.hid (fun A B ca cb W h1 h2 => Texts_same A B ca cb L W h1 h2 (by omega))
  have HK := Lib.hid hK
  have HKR := Lib.hid hKR
  have HR := Lib.hid hR
  have HRR := Lib.hid hRR
  obtain ⟨r1, r2⟩ := res
  simp only at hkr
  have d1 : decide ((3000 : Int) < o.length) = false := by simp; omega
  have d2 : decide ((3000 : Int) < a.length) = false := by simp; omega
  have d3 : decide ((3000 : Int) < b.length) = false := by simp; omega
  have HM := Lib.hid hm
  have HB00 := Lib.hid hB0
  have HKRR := Lib.hid hkr
  clear hK hKR hR hRR hm0 hm hk hkr
  go_enter Tryd.func3, Tryd.ntmps3
  go_wp2_with (fail)
  refine HAW.out.mono ?_
  rintro e w1 ⟨rfl, hw1⟩
  have c0 := (hw1.cell (p := ⟨w.heap.size, 0, none⟩) (show w.heap.size < _ by simp)).trans (cell_of_row _ _ _ _ _ (0, 0) (heap_alloc_new w _))
  have c1 := (hw1.cell (p := ⟨w.heap.size, 1, none⟩) (show w.heap.size < _ by simp)).trans (cell_of_row _ _ _ _ _ (0, 0) (heap_alloc_new w _))
  have c2 := (hw1.cell (p := ⟨w.heap.size, 2, none⟩) (show w.heap.size < _ by simp)).trans (cell_of_row _ _ _ _ _ (0, 0) (heap_alloc_new w _))
  simp only [List.getElem?_toArray, List.getElem?_cons_zero, List.getElem?_cons_succ] at c0 c1 c2
  have hB1 := HB00.out.trans (hw1.mono HB00.out.size)
  have hm1 := (hB1.cell (p := ⟨0, 0, none⟩) hmlt).trans HM.out
  have HM1 := Lib.hid hm1
  clear hw1 hB0 hm1
  go_wp2_with (fail)
  refine (HR.out w1 HM1.out).mono ?_
  rintro e w2 ⟨rfl, hw2⟩
  have q0 := (hw2.cell (p := ⟨w.heap.size, 0, none⟩) (World.block_lt_of_cell? _ _ c0)).trans c0
  have q1 := (hw2.cell (p := ⟨w.heap.size, 1, none⟩) (World.block_lt_of_cell? _ _ c1)).trans c1
  have q2 := (hw2.cell (p := ⟨w.heap.size, 2, none⟩) (World.block_lt_of_cell? _ _ c2)).trans c2
  have hB2 := hB1.trans (hw2.mono hB1.size)
  clear hw2 hB1 c0 c1 c2
  go_wp2_with (fail)
  refine (HRR.out w2).mono ?_
  rintro e w3 ⟨rfl, hw3⟩
  have q := (hw3.cell (p := ⟨w.heap.size, 0, none⟩) (World.block_lt_of_cell? _ _ q0)).trans q0
  have hB := hB2.trans (hw3.mono hB2.size)
  have hmm := (hB.cell (p := ⟨0, 0, none⟩) hmlt).trans HM.out
  clear hw3 hB2 q0 q1 q2
  go_wp2_with (fail)
  have HBX := Lib.hid hB
  have HMX := Lib.hid hmm
  clear hB hmm
  cases kn with
  | true =>
    refine wp_region_noPanic ?_
    refine wp_region_held_drew (S := fun W => W.cell? ⟨w.heap.size, 0, none⟩ = some (.string ⟨o.toArray⟩) ∧ W.cell? ⟨0, 0, none⟩ = some (.int .i64 m)) (by kernel_rfl) ⟨q, HMX.out⟩ (fun hHeld => ?_)
    refine wpAnyH_take (i := 0) (oi := _) (v := ?_) rfl (by kernel_rfl) (by kernel_rfl) (by kernel_rfl) (fun _ _ _ h => h) (Or.inl ⟨by rfl, ?_⟩) (by assumption) ?_
    rotate_left 1
    · intro w hSw
      (try dsimp only at hSw)
      go_simp
      (try with_reducible rfl)
    try simp only [List.getElem_toArray, List.getElem_cons_zero, List.getElem_cons_succ, Act.put, List.setIfInBounds_toArray, List.set_cons_zero, List.set_cons_succ]
    refine wpAnyH_take (i := 1) (oi := _) (v := ?_) rfl (by kernel_rfl) (by kernel_rfl) (by kernel_rfl) (fun _ _ _ h => h) (Or.inl ⟨by rfl, ?_⟩) (by assumption) ?_
    rotate_left 1
    · intro w hSw
      (try dsimp only at hSw)
      go_simp
      (try with_reducible rfl)
    try simp only [List.getElem_toArray, List.getElem_cons_zero, List.getElem_cons_succ, Act.put, List.setIfInBounds_toArray, List.set_cons_zero, List.set_cons_succ]
    refine wpAnyH_take (i := 2) (oi := _) (v := ?_) rfl (by kernel_rfl) (by kernel_rfl) (by kernel_rfl) (fun _ _ _ h => h) (Or.inl ⟨by rfl, ?_⟩) (by assumption) ?_
    rotate_left 1
    · intro w hSw
      (try dsimp only at hSw)
      go_simp
      (try with_reducible rfl)
    try simp only [List.getElem_toArray, List.getElem_cons_zero, List.getElem_cons_succ, Act.put, List.setIfInBounds_toArray, List.set_cons_zero, List.set_cons_succ]
    refine wpAnyH_take (i := 3) (oi := _) (v := ?_) rfl (by kernel_rfl) (by kernel_rfl) (by kernel_rfl) (fun _ _ _ h => h) (Or.inl ⟨by rfl, ?_⟩) (by assumption) ?_
    rotate_left 1
    · intro w hSw
      (try dsimp only at hSw)
      go_simp
      (try with_reducible rfl)
    try simp only [List.getElem_toArray, List.getElem_cons_zero, List.getElem_cons_succ, Act.put, List.setIfInBounds_toArray, List.set_cons_zero, List.set_cons_succ]
    refine wpAnyH_take (i := 4) (oi := _) (v := ?_) rfl (by kernel_rfl) (by kernel_rfl) (by kernel_rfl) (fun _ _ _ h => h) (Or.inl ⟨by rfl, ?_⟩) (by assumption) ?_
    rotate_left 1
    · intro w hSw
      (try dsimp only at hSw)
      go_simp
      (try with_reducible rfl)
    try simp only [List.getElem_toArray, List.getElem_cons_zero, List.getElem_cons_succ, Act.put, List.setIfInBounds_toArray, List.set_cons_zero, List.set_cons_succ]
    refine wpAnyH_take (i := 5) (oi := _) (v := ?_) rfl (by kernel_rfl) (by kernel_rfl) (by kernel_rfl) (fun _ _ _ h => h) (Or.inl ⟨by rfl, ?_⟩) (by assumption) ?_
    rotate_left 1
    · intro w hSw
      (try dsimp only at hSw)
      go_simp
      (try with_reducible rfl)
    try simp only [List.getElem_toArray, List.getElem_cons_zero, List.getElem_cons_succ, Act.put, List.setIfInBounds_toArray, List.set_cons_zero, List.set_cons_succ]
    refine wpAnyH_take (i := 6) (oi := _) (v := ?_) rfl (by kernel_rfl) (by kernel_rfl) (by kernel_rfl) (fun _ _ _ h => h) (Or.inl ⟨by rfl, ?_⟩) (by assumption) ?_
    rotate_left 1
    · intro w hSw
      (try dsimp only at hSw)
      go_simp
      (try with_reducible rfl)
    try simp only [List.getElem_toArray, List.getElem_cons_zero, List.getElem_cons_succ, Act.put, List.setIfInBounds_toArray, List.set_cons_zero, List.set_cons_succ]
    refine wpAnyH_take (i := 7) (oi := _) (v := ?_) rfl (by kernel_rfl) (by kernel_rfl) (by kernel_rfl) (fun _ _ _ h => h) (Or.inl ⟨by rfl, ?_⟩) (by assumption) ?_
    rotate_left 1
    · intro w hSw
      (try dsimp only at hSw)
      go_simp
      (try with_reducible rfl)
    try simp only [List.getElem_toArray, List.getElem_cons_zero, List.getElem_cons_succ, Act.put, List.setIfInBounds_toArray, List.set_cons_zero, List.set_cons_succ]
    refine wpAnyH_take (i := 8) (oi := _) (v := ?_) rfl (by kernel_rfl) (by kernel_rfl) (by kernel_rfl) (fun _ _ _ h => h) (Or.inl ⟨by rfl, ?_⟩) (by assumption) ?_
    rotate_left 1
    · intro w hSw
      (try dsimp only at hSw)
      go_simp
      (try with_reducible rfl)
    try simp only [List.getElem_toArray, List.getElem_cons_zero, List.getElem_cons_succ, Act.put, List.setIfInBounds_toArray, List.set_cons_zero, List.set_cons_succ]
    refine wpAnyH_take (i := 9) (oi := _) (v := ?_) rfl (by kernel_rfl) (by kernel_rfl) (by kernel_rfl) (fun _ _ _ h => h) (Or.inl ⟨by rfl, ?_⟩) (by assumption) ?_
    rotate_left 1
    · intro w hSw
      (try dsimp only at hSw)
      go_simp
      (try with_reducible rfl)
    try simp only [List.getElem_toArray, List.getElem_cons_zero, List.getElem_cons_succ, Act.put, List.setIfInBounds_toArray, List.set_cons_zero, List.set_cons_succ]
    refine wpAnyH_take (i := 11) (oi := _) (v := ?_) rfl (by kernel_rfl) (by kernel_rfl) (by kernel_rfl) (fun _ _ _ h => h) (Or.inl ⟨by rfl, ?_⟩) (by assumption) ?_
    rotate_left 1
    · intro w hSw
      (try dsimp only at hSw)
      go_simp
      (try with_reducible rfl)
    try simp only [List.getElem_toArray, List.getElem_cons_zero, List.getElem_cons_succ, Act.put, List.setIfInBounds_toArray, List.set_cons_zero, List.set_cons_succ]
    refine wpAnyH_ready (rs := [10]) (by kernel_rfl) (by simp) ?_
    refine AllReadyH.cons (o := _) rfl (fun K hK => ?_) AllReadyH.nil
    go_simp
    refine (HK.out _).mono ?_
    rintro e w4 ⟨rfl, hw4⟩
    have hB4 : Below w.heap.size w w4 := (by first | exact HBX.out.trans (hw4.mono HBX.out.size) | exact HBX.out.drew.trans (hw4.mono HBX.out.drew.size))
    have HBX := Lib.hid hB4
    have hm4 := (hB4.cell (p := ⟨0, 0, none⟩) hmlt).trans HM.out
    have HMX := Lib.hid hm4
    have q := (hw4.cell (p := ⟨w.heap.size, 0, none⟩) (World.block_lt_of_cell? _ _ q)).trans q
    (try go_wp2_with (fail))
    refine hK.out _ _ ⟨q, HMX.out⟩ (fun hHeld => ?_)
    clear hK K hw4 hB4 hm4
    try simp only [List.getElem_toArray, List.getElem_cons_zero, List.getElem_cons_succ, Act.put, List.setIfInBounds_toArray, List.set_cons_zero, List.set_cons_succ]
    refine wpAnyH_ready (rs := [12]) (by kernel_rfl) (by simp) ?_
    refine AllReadyH.cons (o := _) rfl (fun K hK => ?_) AllReadyH.nil
    go_simp
    refine (HKR.out _).mono ?_
    rintro e w4 ⟨rfl, hw4⟩
    have hB4 : Below w.heap.size w w4 := (by first | exact HBX.out.trans (hw4.mono HBX.out.size) | exact HBX.out.drew.trans (hw4.mono HBX.out.drew.size))
    have HBX := Lib.hid hB4
    have hm4 := (hB4.cell (p := ⟨0, 0, none⟩) hmlt).trans HM.out
    have HMX := Lib.hid hm4
    have q := (hw4.cell (p := ⟨w.heap.size, 0, none⟩) (World.block_lt_of_cell? _ _ q)).trans q
    (try go_wp2_with (fail))
    refine hK.out _ _ ⟨q, HMX.out⟩ (fun hHeld => ?_)
    clear hK K hw4 hB4 hm4
    try simp only [List.getElem_toArray, List.getElem_cons_zero, List.getElem_cons_succ, Act.put, List.setIfInBounds_toArray, List.set_cons_zero, List.set_cons_succ]
    refine wpAnyH_take (i := 13) (oi := _) (v := ?_) rfl (by kernel_rfl) (by kernel_rfl) (by kernel_rfl) (fun _ _ _ h => h) (Or.inl ⟨by rfl, ?_⟩) (by assumption) ?_
    rotate_left 1
    · intro w hSw
      (try dsimp only at hSw)
      go_simp
      (try with_reducible rfl)
    try simp only [List.getElem_toArray, List.getElem_cons_zero, List.getElem_cons_succ, Act.put, List.setIfInBounds_toArray, List.set_cons_zero, List.set_cons_succ]
    refine wpAnyH_take (i := 14) (oi := _) (v := ?_) rfl (by kernel_rfl) (by kernel_rfl) (by kernel_rfl) (fun _ _ _ h => h) (Or.inl ⟨by rfl, ?_⟩) (by assumption) ?_
    rotate_left 1
    · intro w hSw
      (try dsimp only at hSw)
      go_simp
      (try with_reducible rfl)
    try simp only [List.getElem_toArray, List.getElem_cons_zero, List.getElem_cons_succ, Act.put, List.setIfInBounds_toArray, List.set_cons_zero, List.set_cons_succ]
    refine wpAnyH_take (i := 15) (oi := _) (v := ?_) rfl (by kernel_rfl) (by kernel_rfl) (by kernel_rfl) (fun _ _ _ h => h) (Or.inl ⟨by rfl, ?_⟩) (by assumption) ?_
    rotate_left 1
    · intro w hSw
      (try dsimp only at hSw)
      go_simp
      (try with_reducible rfl)
    try simp only [List.getElem_toArray, List.getElem_cons_zero, List.getElem_cons_succ, Act.put, List.setIfInBounds_toArray, List.set_cons_zero, List.set_cons_succ]
    refine wpAnyH_take (i := 16) (oi := _) (v := ?_) rfl (by kernel_rfl) (by kernel_rfl) (by kernel_rfl) (fun _ _ _ h => h) (Or.inl ⟨by rfl, ?_⟩) (by assumption) ?_
    rotate_left 1
    · intro w hSw
      (try dsimp only at hSw)
      go_simp
      (try with_reducible rfl)
    try simp only [List.getElem_toArray, List.getElem_cons_zero, List.getElem_cons_succ, Act.put, List.setIfInBounds_toArray, List.set_cons_zero, List.set_cons_succ]
    refine wpAnyH_take (i := 17) (oi := _) (v := ?_) rfl (by kernel_rfl) (by kernel_rfl) (by kernel_rfl) (fun _ _ _ h => h) (Or.inl ⟨by rfl, ?_⟩) (by assumption) ?_
    rotate_left 1
    · intro w hSw
      (try dsimp only at hSw)
      go_simp
      (try with_reducible rfl)
    try simp only [List.getElem_toArray, List.getElem_cons_zero, List.getElem_cons_succ, Act.put, List.setIfInBounds_toArray, List.set_cons_zero, List.set_cons_succ]
    refine wpAnyH_take (i := 19) (oi := _) (v := ?_) rfl (by kernel_rfl) (by kernel_rfl) (by kernel_rfl) (fun _ _ _ h => h) (Or.inl ⟨by rfl, ?_⟩) (by assumption) ?_
    rotate_left 1
    · intro w hSw
      (try dsimp only at hSw)
      go_simp
      (try with_reducible rfl)
    try simp only [List.getElem_toArray, List.getElem_cons_zero, List.getElem_cons_succ, Act.put, List.setIfInBounds_toArray, List.set_cons_zero, List.set_cons_succ]
    refine wpAnyH_take (i := 20) (oi := _) (v := ?_) rfl (by kernel_rfl) (by kernel_rfl) (by kernel_rfl) (fun _ _ _ h => h) (Or.inl ⟨by rfl, ?_⟩) (by assumption) ?_
    rotate_left 1
    · intro w hSw
      (try dsimp only at hSw)
      go_simp
      (try with_reducible rfl)
    try simp only [List.getElem_toArray, List.getElem_cons_zero, List.getElem_cons_succ, Act.put, List.setIfInBounds_toArray, List.set_cons_zero, List.set_cons_succ]
    refine wpAnyH_ready (rs := [18]) (by kernel_rfl) (by simp) ?_
    refine AllReadyH.cons (o := _) rfl (fun K hK => ?_) AllReadyH.nil
    go_simp
    refine (HLA.out _ HMX.out).mono ?_
    rintro e w4 ⟨A, ca, rfl, hca, hma, hra, hw4, hA0⟩
    have hB4 : Below w.heap.size w w4 := (by first | exact HBX.out.trans (hw4.mono HBX.out.size) | exact HBX.out.drew.trans (hw4.mono HBX.out.drew.size))
    have HBX := Lib.hid hB4
    have hm4 := (hB4.cell (p := ⟨0, 0, none⟩) hmlt).trans HM.out
    have HMX := Lib.hid hm4
    have q := (hw4.cell (p := ⟨w.heap.size, 0, none⟩) (World.block_lt_of_cell? _ _ q)).trans q
    (try go_wp2_with (fail))
    refine hK.out _ _ ⟨q, HMX.out⟩ (fun hHeld => ?_)
    clear hK K hw4 hB4 hm4
    try simp only [List.getElem_toArray, List.getElem_cons_zero, List.getElem_cons_succ, Act.put, List.setIfInBounds_toArray, List.set_cons_zero, List.set_cons_succ]
    refine wpAnyH_ready (rs := [21]) (by kernel_rfl) (by simp) ?_
    refine AllReadyH.cons (o := _) rfl (fun K hK => ?_) AllReadyH.nil
    go_simp
    refine (HLB.out _).mono ?_
    rintro e w4 ⟨B, cb, rfl, hcb, hmb, hrb, hw4, hB0⟩
    have hB4 : Below w.heap.size w w4 := (by first | exact HBX.out.trans (hw4.mono HBX.out.size) | exact HBX.out.drew.trans (hw4.mono HBX.out.drew.size))
    have HBX := Lib.hid hB4
    have hm4 := (hB4.cell (p := ⟨0, 0, none⟩) hmlt).trans HM.out
    have HMX := Lib.hid hm4
    have q := (hw4.cell (p := ⟨w.heap.size, 0, none⟩) (World.block_lt_of_cell? _ _ q)).trans q
    have hra := hra.below hw4
    (try go_wp2_with (fail))
    refine hK.out _ _ ⟨q, HMX.out⟩ (fun hHeld => ?_)
    clear hK K hw4 hB4 hm4
    try simp only [List.getElem_toArray, List.getElem_cons_zero, List.getElem_cons_succ, Act.put, List.setIfInBounds_toArray, List.set_cons_zero, List.set_cons_succ]
    refine wpAnyH_ready (rs := [22]) (by kernel_rfl) (by simp) ?_
    refine AllReadyH.cons (o := _) rfl (fun K hK => ?_) AllReadyH.nil
    go_simp
    refine (HT.out _ _ _ _ _ hra hrb).mono ?_
    rintro e w4 ⟨rfl, hw4⟩
    have hB4 : Below w.heap.size w w4 := (by first | exact HBX.out.trans (hw4.mono HBX.out.size) | exact HBX.out.drew.trans (hw4.mono HBX.out.drew.size))
    have HBX := Lib.hid hB4
    have hm4 := (hB4.cell (p := ⟨0, 0, none⟩) hmlt).trans HM.out
    have HMX := Lib.hid hm4
    have q := (hw4.cell (p := ⟨w.heap.size, 0, none⟩) (World.block_lt_of_cell? _ _ q)).trans q
    (try go_wp2_with (fail))
    refine hK.out _ _ ⟨q, HMX.out⟩ (fun hHeld => ?_)
    clear hK K hw4 hB4 hm4
    try simp only [List.getElem_toArray, List.getElem_cons_zero, List.getElem_cons_succ, Act.put, List.setIfInBounds_toArray, List.set_cons_zero, List.set_cons_succ]
    refine wpAnyH_take (i := 23) (oi := _) (v := ?_) rfl (by kernel_rfl) (by kernel_rfl) (by kernel_rfl) (fun _ _ _ h => h) (Or.inl ⟨by rfl, ?_⟩) (by assumption) ?_
    rotate_left 1
    · intro w hSw
      (try dsimp only at hSw)
      go_simp
      (try with_reducible rfl)
    try simp only [List.getElem_toArray, List.getElem_cons_zero, List.getElem_cons_succ, Act.put, List.setIfInBounds_toArray, List.set_cons_zero, List.set_cons_succ]
    refine wpAnyH_take (i := 24) (oi := _) (v := ?_) rfl (by kernel_rfl) (by kernel_rfl) (by kernel_rfl) (fun _ _ _ h => h) (Or.inl ⟨by rfl, ?_⟩) (by assumption) ?_
    rotate_left 1
    · intro w hSw
      (try dsimp only at hSw)
      go_simp
      (try with_reducible rfl)
    try simp only [List.getElem_toArray, List.getElem_cons_zero, List.getElem_cons_succ, Act.put, List.setIfInBounds_toArray, List.set_cons_zero, List.set_cons_succ]
    refine wpAnyH_take (i := 25) (oi := _) (v := ?_) rfl (by kernel_rfl) (by kernel_rfl) (by kernel_rfl) (fun _ _ _ h => h) (Or.inl ⟨by rfl, ?_⟩) (by assumption) ?_
    rotate_left 1
    · intro w hSw
      (try dsimp only at hSw)
      go_simp
      (try with_reducible rfl)
    try simp only [List.getElem_toArray, List.getElem_cons_zero, List.getElem_cons_succ, Act.put, List.setIfInBounds_toArray, List.set_cons_zero, List.set_cons_succ]
    refine wpAnyH_ready (rs := [26]) (by kernel_rfl) (by simp) ?_
    refine AllReadyH.cons (o := _) rfl (fun K hK => ?_) AllReadyH.nil
    go_simp
    refine (HK.out _).mono ?_
    rintro e w4 ⟨rfl, hw4⟩
    have hB4 : Below w.heap.size w w4 := (by first | exact HBX.out.trans (hw4.mono HBX.out.size) | exact HBX.out.drew.trans (hw4.mono HBX.out.drew.size))
    have HBX := Lib.hid hB4
    have hm4 := (hB4.cell (p := ⟨0, 0, none⟩) hmlt).trans HM.out
    have HMX := Lib.hid hm4
    have q := (hw4.cell (p := ⟨w.heap.size, 0, none⟩) (World.block_lt_of_cell? _ _ q)).trans q
    (try go_wp2_with (fail))
    refine hK.out _ _ ⟨q, HMX.out⟩ (fun hHeld => ?_)
    clear hK K hw4 hB4 hm4
    try simp only [List.getElem_toArray, List.getElem_cons_zero, List.getElem_cons_succ, Act.put, List.setIfInBounds_toArray, List.set_cons_zero, List.set_cons_succ]
    refine wpAnyH_take (i := 27) (oi := _) (v := ?_) rfl (by kernel_rfl) (by kernel_rfl) (by kernel_rfl) (fun _ _ _ h => h) (Or.inl ⟨by rfl, ?_⟩) (by assumption) ?_
    rotate_left 1
    · intro w hSw
      (try dsimp only at hSw)
      go_simp
      (try with_reducible rfl)
    try simp only [List.getElem_toArray, List.getElem_cons_zero, List.getElem_cons_succ, Act.put, List.setIfInBounds_toArray, List.set_cons_zero, List.set_cons_succ]
    refine wpAnyH_take (i := 28) (oi := _) (v := undef) rfl (by kernel_rfl) (by kernel_rfl) (by kernel_rfl) (fun _ _ _ h => h) (Or.inr ⟨by rfl, rfl⟩) (by assumption) ?_
    try simp only [List.getElem_toArray, List.getElem_cons_zero, List.getElem_cons_succ, Act.put, List.setIfInBounds_toArray, List.set_cons_zero, List.set_cons_succ]
    refine wpAnyH_take (i := 29) (oi := _) (v := undef) rfl (by kernel_rfl) (by kernel_rfl) (by kernel_rfl) (fun _ _ _ h => h) (Or.inr ⟨by rfl, rfl⟩) (by assumption) ?_
    try simp only [List.getElem_toArray, List.getElem_cons_zero, List.getElem_cons_succ, Act.put, List.setIfInBounds_toArray, List.set_cons_zero, List.set_cons_succ]
    refine wpAnyH_take (i := 30) (oi := _) (v := ?_) rfl (by kernel_rfl) (by kernel_rfl) (by kernel_rfl) (fun _ _ _ h => h) (Or.inl ⟨by rfl, ?_⟩) (by assumption) ?_
    rotate_left 1
    · intro w hSw
      (try dsimp only at hSw)
      go_simp
      (try with_reducible rfl)
    try simp only [List.getElem_toArray, List.getElem_cons_zero, List.getElem_cons_succ, Act.put, List.setIfInBounds_toArray, List.set_cons_zero, List.set_cons_succ]
    refine wpAnyH_take (i := 31) (oi := _) (v := ?_) rfl (by kernel_rfl) (by kernel_rfl) (by kernel_rfl) (fun _ _ _ h => h) (Or.inl ⟨by rfl, ?_⟩) (by assumption) ?_
    rotate_left 1
    · intro w hSw
      (try dsimp only at hSw)
      go_simp
      (try with_reducible rfl)
    try simp only [List.getElem_toArray, List.getElem_cons_zero, List.getElem_cons_succ, Act.put, List.setIfInBounds_toArray, List.set_cons_zero, List.set_cons_succ]
    refine wpAnyH_take (i := 32) (oi := _) (v := ?_) rfl (by kernel_rfl) (by kernel_rfl) (by kernel_rfl) (fun _ _ _ h => h) (Or.inl ⟨by rfl, ?_⟩) (by assumption) ?_
    rotate_left 1
    · intro w hSw
      (try dsimp only at hSw)
      go_simp
      (try with_reducible rfl)
    try simp only [List.getElem_toArray, List.getElem_cons_zero, List.getElem_cons_succ, Act.put, List.setIfInBounds_toArray, List.set_cons_zero, List.set_cons_succ]
    refine wpAnyH_done (by kernel_rfl) ?_ _
    refine NoPanic.normal ?_
    go_wp2_with (fail)
    go_ret
    exact ⟨rfl, HBX.out⟩
  | false =>
    have hr170 := HKRR.out rfl
    subst hr170
    first
    | (
      go_region_held3 (fun W => W.cell? ⟨w.heap.size, 0, none⟩ = some (.string ⟨o.toArray⟩) ∧ W.cell? ⟨0, 0, none⟩ = some (.int .i64 m)) (first | exact ⟨q, HMX.out⟩)
      (first
      | (go_at_call 10; ((with_reducible refine (HK.out _).mono ?_); rintro e w4 ⟨rfl, hw4⟩; have hB4 : Below w.heap.size w w4 := (by first | exact HBX.out.trans (hw4.mono HBX.out.size) | exact HBX.out.drew.trans (hw4.mono HBX.out.drew.size)); have HBX := Lib.hid hB4; have hm4 := (hB4.cell (p := ⟨0, 0, none⟩) hmlt).trans HM.out; have HMX := Lib.hid hm4; have q := (hw4.cell (p := ⟨w.heap.size, 0, none⟩) (World.block_lt_of_cell? _ _ q)).trans q; (try have hra := hra.below hw4); (try have hrb := hrb.below hw4); clear hw4 hB4 hm4))
      | (go_at_call 11; ((with_reducible refine (HKR.out _).mono ?_); rintro e w4 ⟨rfl, hw4⟩; have hB4 : Below w.heap.size w w4 := (by first | exact HBX.out.trans (hw4.mono HBX.out.size) | exact HBX.out.drew.trans (hw4.mono HBX.out.drew.size)); have HBX := Lib.hid hB4; have hm4 := (hB4.cell (p := ⟨0, 0, none⟩) hmlt).trans HM.out; have HMX := Lib.hid hm4; have q := (hw4.cell (p := ⟨w.heap.size, 0, none⟩) (World.block_lt_of_cell? _ _ q)).trans q; clear hw4 hB4 hm4))
      | (go_at_call 13; ((with_reducible refine (HLA.out _ HMX.out).mono ?_); rintro e w4 ⟨A, ca, rfl, hca, hma, hra, hw4, hA0⟩; have hB4 : Below w.heap.size w w4 := (by first | exact HBX.out.trans (hw4.mono HBX.out.size) | exact HBX.out.drew.trans (hw4.mono HBX.out.drew.size)); have HBX := Lib.hid hB4; have hm4 := (hB4.cell (p := ⟨0, 0, none⟩) hmlt).trans HM.out; have HMX := Lib.hid hm4; have q := (hw4.cell (p := ⟨w.heap.size, 0, none⟩) (World.block_lt_of_cell? _ _ q)).trans q; (try have hrb := hrb.below hw4); clear hw4 hB4 hm4))
      | (go_at_call 14; ((with_reducible refine (HLB.out _).mono ?_); rintro e w4 ⟨B, cb, rfl, hcb, hmb, hrb, hw4, hB0⟩; have hB4 : Below w.heap.size w w4 := (by first | exact HBX.out.trans (hw4.mono HBX.out.size) | exact HBX.out.drew.trans (hw4.mono HBX.out.drew.size)); have HBX := Lib.hid hB4; have hm4 := (hB4.cell (p := ⟨0, 0, none⟩) hmlt).trans HM.out; have HMX := Lib.hid hm4; have q := (hw4.cell (p := ⟨w.heap.size, 0, none⟩) (World.block_lt_of_cell? _ _ q)).trans q; (try have hra := hra.below hw4); clear hw4 hB4 hm4))
      | (go_at_call 12; ((with_reducible refine (HT.out _ _ _ _ _ hra hrb).mono ?_); rintro e w4 ⟨rfl, hw4⟩; have hB4 : Below w.heap.size w w4 := (by first | exact HBX.out.trans (hw4.mono HBX.out.size) | exact HBX.out.drew.trans (hw4.mono HBX.out.drew.size)); have HBX := Lib.hid hB4; have hm4 := (hB4.cell (p := ⟨0, 0, none⟩) hmlt).trans HM.out; have HMX := Lib.hid hm4; have q := (hw4.cell (p := ⟨w.heap.size, 0, none⟩) (World.block_lt_of_cell? _ _ q)).trans q; clear hw4 hB4 hm4))))
    go_wp2_with (fail)
    go_ret
    exact ⟨rfl, HBX.out⟩
end Go.Proofs.YtgbiddjkjdggpaaDoor
