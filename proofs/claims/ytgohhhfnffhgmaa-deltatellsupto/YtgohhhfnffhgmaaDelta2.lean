/- delta.Sign: what is told of a text's blocks. -/
import Derived.Test.YtgohhhfnffhgmaaDelta1
import Derived.Test.YtgohhhfnffhgmaaSha2
import Derived.Test.YtgohhhfnffhgmaaTwo
namespace Go.Proofs.Ytgohhhfnffhgmaa
open Go.RowKit Plain

/-- the cells of what is told of a block -/
def blkV (b : Blk) : List Value := [.int .u32 (b.w : Nat), .string ⟨b.s.toArray⟩, .int .i64 b.n]
theorem blkV_length (b : Blk) : (blkV b).length = 3 := rfl
theorem blkV_oneCell (b : Blk) : ∀ u ∈ blkV b, u.oneCell' = true := by
  intro u hu
  simp [blkV] at hu
  rcases hu with rfl | rfl | rfl <;> rfl
theorem info_Block : (Try.prog.info? 33).map (fun i => (i.zero, i.size, i.bytes)) = some (some (.agg #[.int .u32 0, .string ⟨#[]⟩, .int .i64 0]), 3, 32) := by kernel_rfl
theorem info_BlockS : (Try.prog.info? 33).map (·.size) = some 3 := by kernel_rfl

theorem odd_good (size : Int) (w : World) (h1 : 1 ≤ size) (h2 : size ≤ 65536) : Calls Try.prog 15 #[.int .i64 size] w (Ret w (.bool false)) := by
  have b1 : decide (size < 1) = false := decide_eq_false (by omega)
  have b2 : decide (65536 < size) = false := decide_eq_false (by omega)
  go_enter Try.func15, Try.ntmps15
  go_wp2_with (fail)
  go_ret
  exact ⟨rfl, Below.refl _ _⟩
theorem odd_bad (size : Int) (w : World) (h : size < 1 ∨ 65536 < size) : Calls Try.prog 15 #[.int .i64 size] w (Ret w (.bool true)) := by
  by_cases h1 : size < 1
  · have b1 : decide (size < 1) = true := decide_eq_true (by omega)
    clear h
    go_enter Try.func15, Try.ntmps15
    go_wp2_with (fail)
    go_ret
    exact ⟨rfl, Below.refl _ _⟩
  · have b1 : decide (size < 1) = false := decide_eq_false (by omega)
    have b2 : decide (65536 < size) = true := decide_eq_true (by omega)
    clear h
    go_enter Try.func15, Try.ntmps15
    go_wp2_with (fail)
    go_ret
    exact ⟨rfl, Below.refl _ _⟩

set_option maxHeartbeats 1000000 in
theorem dblock_any (s : List UInt8) (size i : Nat) (w : World) (hs : 1 ≤ size) (hs2 : size ≤ 65536) (hl : s.length ≤ 4294967296) (hi : i * size < s.length) :
    Calls Try.prog 16 #[.string ⟨s.toArray⟩, .int .i64 (size : Nat), .int .i64 (i : Nat)] w (Ret w (.string ⟨(blockP s size i).toArray⟩)) := by
  have hq : i ≤ s.length / size := by rw [Nat.le_div_iff_mul_le (by omega)]; omega
  have hisz : i < 4294967296 := by
    have : i * 1 ≤ i * size := Nat.mul_le_mul_left i hs
    omega
  obtain ⟨P, hP⟩ : ∃ P, P = i * size := ⟨_, rfl⟩
  have hPl : P < s.length := by omega
  have e1 : (i : Int) * (size : Int) = (P : Nat) := by rw [hP]; push_cast; rfl
  have e2 : ((i : Int) + 1) * (size : Int) = (P : Int) + size := by rw [Int.add_mul, e1]; omega
  have e3 : blockP s size i = (s.drop P).take (min (P + size) s.length - P) := by
    unfold blockP
    rw [← hP]
    by_cases q : P + size ≤ s.length
    · rw [Nat.min_eq_left q]; congr 1; omega
    · rw [Nat.min_eq_right (by omega), List.take_of_length_le (by simp; omega), List.take_of_length_le (by simp)]
  have hd : (s.length : Int) / (size : Int) = ((s.length / size : Nat) : Int) := by push_cast; rfl
  have hdl : s.length / size ≤ s.length := Nat.div_le_self _ _
  generalize s.length / size = d at *
  obtain ⟨E, hE, hE1, hE2⟩ : ∃ E, E = min (P + size) s.length ∧ P ≤ E ∧ E ≤ s.length := ⟨_, rfl, by omega, by omega⟩
  rw [← hE] at e3
  have hmin : (if (s.length : Int) < (P : Int) + size then (s.length : Int) else (P : Int) + size) = (E : Nat) := by
    split <;> omega
  have E3 := Lib.hid e3
  have HMIN := Lib.hid hmin
  have b1 : decide ((i : Int) < 0) = false := decide_eq_false (by omega)
  have b2 : decide ((d : Int) < (i : Int)) = false := decide_eq_false (by omega)
  have HE := Lib.hid hE
  clear e3 hmin hE hP hi
  go_enter Try.func16, Try.ntmps16
  go_wp2_with (fail)
  have hE : (min ((P : Int) + size) s.length).toNat = E := by have := HE.out; omega
  rw [hE, ← E3.out]
  go_ret
  exact ⟨rfl, Below.refl _ _⟩

theorem laid_rowE (w : World) (t : TypeId) (L : List Value) : ∀ j v, L[j]? = some v → (w.alloc (.cells L.toArray t)).cell? ((⟨w.heap.size, 0, none⟩ : Addr).add j) = some v := by
  intro j v hj
  have h : ((⟨w.heap.size, 0, none⟩ : Addr).add j) = ⟨w.heap.size, j, none⟩ := by unfold Addr.add; split <;> simp_all
  rw [h, cell_of_row _ _ _ L.toArray t (0, 0) (heap_alloc_new w _)]
  simpa using hj

theorem signP_length (base : List UInt8) (size : Nat) : (signP base size).length = countB base.length size := by simp [signP, blocksP]
theorem signP_take {base : List UInt8} {size k : Nat} (h : k < countB base.length size) : (signP base size).take (k + 1) = (signP base size).take k ++ [told (blockP base size k)] := by
  have hl := signP_length base size
  rw [List.take_succ_eq_append_getElem (by omega)]
  congr 2
  simp [signP, blocksP]
theorem countB_le {n size : Nat} (hs : 1 ≤ size) : countB n size ≤ n := by
  unfold countB
  have h1 : n * 1 ≤ n * size := Nat.mul_le_mul_left n hs
  have h2 : (n + size - 1) / size < n + 1 := by
    rw [Nat.div_lt_iff_lt_mul (by omega), Nat.add_mul]
    omega
  omega

set_option maxRecDepth 100000 in
set_option maxHeartbeats 2000000 in
theorem Sign_any (base : List UInt8) (size : Nat) (w : World) (hs : 1 ≤ size) (hs2 : size ≤ 65536) (hl : base.length ≤ 1048576) :
    Calls Try.prog 7 #[.string ⟨base.toArray⟩, .int .i64 (size : Nat)] w fun e w' => ∃ v, e = .returned (.tuple #[v, .int .i64 0]) ∧ w'.ownsRow w.heap.size 33 3 v (signP base size).length (rowsE blkV (signP base size)) ∧ Below w.heap.size w w' := by
  obtain ⟨i0, hi, hz0, hz1, hz2⟩ := info_parts info_Block
  have hN := countB_le (n := base.length) hs
  have hNl := signP_length base size
  have hcl := fun i => countB_lt (n := base.length) (i := i) hs
  go_enter Try.func7, Try.ntmps7
  go_wp2_with (fail)
  refine (odd_good size _ (by omega) (by omega)).mono ?_
  rintro e w1 ⟨rfl, hb1⟩
  have HB1 := Lib.hid hb1
  clear hb1
  have HCL := Lib.hid hcl
  clear hcl
  have HI := Lib.hid hi
  clear hi
  go_wp2_with (fail)
  go_loopw [6, 7, 8] (fun t6 t7 _ W => ∃ k : Nat, k ≤ countB base.length size ∧ t7 = .int .i64 (k : Nat) ∧ Hid (W.ownsRow w.heap.size 33 3 t6 k (rowsE blkV ((signP base size).take k))) ∧ Hid (Below w.heap.size w W)) (fun _ t7 _ _ => countB base.length size - (intOf t7).toNat)
  case atStart => exact ⟨0, by omega, rfl, Lib.hid (World.ownsRow_nil _ _ _ _), HB1⟩
  case round =>
    clear HB1
    obtain ⟨k, hk, rfl, HO, HB⟩ := hrel
    have hk4 : k ≤ 1048576 := by omega
    have hks : k * size ≤ 1048576 * 65536 := Nat.mul_le_mul hk4 hs2
    have e1 : (k : Int) * (size : Int) = ((k * size : Nat) : Int) := by push_cast; rfl
    by_cases hlt : k < countB base.length size
    · have hkb := (HCL.out k).1 hlt
      have hblk := fun W => dblock_any base size k W hs hs2 (by omega) hkb
      have htk := signP_take hlt
      have hbl : (blockP base size k).length ≤ 65536 := by unfold blockP; simp; omega
      have HW := Lib.hid (fun W => Weak_any (blockP base size k) W (by omega))
      have HS := Lib.hid (fun W => Sum_any (blockP base size k) W (by omega))
      have HT := Lib.hid htk
      generalize k * size = ks at *
      generalize hb0 : blockP base size k = b at *
      have HB0 := Lib.hid hb0
      clear htk hb0
      go_wp2_with (fail)
      refine (hblk _).mono ?_
      rintro e w2 ⟨rfl, hb2⟩
      have HB2 := Lib.hid (HB.out.trans (hb2.mono HB.out.size))
      have HO2 := Lib.hid (own_below HO.out hb2)
      clear hb2 hblk HB HO
      go_wp2_with (fail)
      refine (HW.out _).mono ?_
      rintro e w3 ⟨rfl, hb3⟩
      have HB3 := Lib.hid (HB2.out.trans (hb3.mono HB2.out.size))
      have HO3 := Lib.hid (own_below HO2.out hb3)
      clear hb3 HB2 HO2
      go_wp2_with (fail)
      refine (HS.out _).mono ?_
      rintro e w4 ⟨rfl, hb4⟩
      have HB4 := Lib.hid (HB3.out.trans (hb4.mono HB3.out.size))
      have HO4 := Lib.hid (own_below HO3.out hb4)
      clear hb4 HB3 HO3
      have htl : ((signP base size).take k).length = k := by rw [List.length_take, hNl]; omega
      go_wp2_with (at_builtin; refine wpList_append_two rfl _ _ 22 rfl w.heap.size 33 i0 _ 3 32 Try.underlying22 HI.out hz0 hz1 hz2 rfl (by decide) _ _ _ rfl (HO4.out.alloc _) ⟨w4.heap.size, 0, none⟩ 1 1 (blkV (told b)) rfl rfl (laid_rowE _ _ _) (blkV_oneCell _) ?c3 ?c4 ?c5 ?_)
      case c3 => unfold maxLen; omega
      case c4 => omega
      case c5 => have := HB4.out.size; simp; omega
      intro v1 w5 hown5 hg5 hl5
      have hb5 : Below w.heap.size w w5 := (HB4.out.alloc HB4.out.size _).grown hg5 (by have := HB4.out.size; simp; omega) (fun k hk => (HO4.out.lt k hk).1)
      have hown6 : w5.ownsRow w.heap.size 33 3 v1 (k + 1) (rowsE blkV ((signP base size).take (k + 1))) := by
        rw [HT.out, rowsE_append, rowsE_one]; exact hown5
      have HO5 := Lib.hid hown6
      have HB5 := Lib.hid hb5
      clear hown5 hown6 hg5 hl5 hb5 HO4 HB4
      go_wp2_with (fail)
      go_roundw
      case rel => exact ⟨k + 1, by omega, by go_num, HO5, HB5⟩
      case measure => simp [intOf]; omega
    · obtain rfl : k = countB base.length size := by omega
      have hks2 : ¬ countB base.length size * size < base.length := fun h => hlt ((HCL.out _).2 h)
      have HOX := HO.out
      rw [List.take_of_length_le (by omega)] at HOX
      rw [← hNl] at HOX
      have HF := Lib.hid HOX
      clear HOX HO
      generalize countB base.length size = k at *
      generalize k * size = ks at *
      go_wp2_with (fail)
      go_ret2
      exact ⟨_, rfl, HF.out, HB.out⟩

set_option maxHeartbeats 1000000 in
theorem Sign_bad (base : List UInt8) (size : Int) (w : World) (h : size < 1 ∨ 65536 < size) :
    Calls Try.prog 7 #[.string ⟨base.toArray⟩, .int .i64 size] w (Ret w (.tuple #[.slice none 0 0, .int .i64 2])) := by
  go_enter Try.func7, Try.ntmps7
  go_wp2_with (fail)
  refine (Ret.quiet (Below.refl _ _) (odd_bad size _ h)).mono ?_
  rintro e w1 ⟨rfl, hb1⟩
  go_wp2_with (fail)
  go_ret2
  exact ⟨rfl, hb1⟩
end Go.Proofs.Ytgohhhfnffhgmaa
