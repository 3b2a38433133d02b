/- delta.Make. -/
import Derived.Test.YtgohhhfnffhgmaaDelta8b
import Derived.Test.YtgohhhfnffhgmaaDelta2
namespace Go.Proofs.Ytgohhhfnffhgmaa
open Go.RowKit Plain Go.Maps Go.ChangeMaps

theorem only_up {S : Nat → Prop} {a w w' : World} (h : Only S a w) (k : Only (fun b => S b ∨ a.heap.size ≤ b) w w') : Only S a w' :=
  ⟨k.os.trans h.os, k.tape.trans h.tape, k.output.trans h.output, Nat.le_trans h.size k.size, fun i hi hn => (k.block i (Nat.lt_of_lt_of_le hi h.size) (fun g => by
    rcases g with g | g
    · exact hn g
    · omega)).trans (h.block i hi hn)⟩
theorem info_int8 : (Try.prog.info? 3).map (fun i => (i.zero, i.size, i.bytes)) = some (some (.int .i64 0), 1, 8) := by kernel_rfl

set_option maxRecDepth 100000 in
set_option maxHeartbeats 4000000 in
theorem Make_any (base : Nat) (lv : Value) (l : List Blk) (data : List UInt8) (size : Nat) (w : World) (hL : BlksAt w base lv l) (hs : 1 ≤ size) (hs2 : size ≤ 65536) (hd : data.length ≤ 1048576) (hl : l.length ≤ 4294967296) (hb32 : ∀ b ∈ l, b.w < 4294967296) :
    Calls Try.prog 9 #[.string ⟨data.toArray⟩, lv, .int .i64 (size : Nat)] w fun e w' => ∃ v, e = .returned (.tuple #[v, .int .i64 0]) ∧ OpsAt w' w.heap.size v (makeP data l size) ∧ Below w.heap.size w w' := by
  obtain ⟨A, c, rfl⟩ := hL.slice
  obtain ⟨it0, hi1, hy0, hy1, hy2⟩ := info_parts info_int8
  obtain ⟨j0, hj, jz0, jz1, jz2⟩ := info_parts info_Op
  have HJ := Lib.hid hj
  clear hj
  have HI := Lib.hid hi1
  have HL := Lib.hid hL
  have HB32 := Lib.hid hb32
  clear hi1 hL hb32
  go_enter Try.func9, Try.ntmps9
  go_wp2_with (fail)
  refine (odd_good size _ (by omega) (by omega)).mono ?_
  rintro e w1 ⟨rfl, hb1⟩
  have hD := (hb1.block w.heap.size (by simp)).trans (heap_alloc_new w _)
  have hsz1 : w.heap.size < w1.heap.size := by have := hb1.size; simp at this; omega
  have cD := cell_of_row w1 w.heap.size 0 _ _ _ hD
  have HB1 := Lib.hid (((Below.refl w.heap.size w).alloc (Nat.le_refl _) (.cells #[.string ⟨data.toArray⟩] 9)).trans (hb1.mono (by simp)))
  have HD := Lib.hid hD
  clear hD hb1
  have hmk : (Instr.makeMap 60 none).run Try.prog w1 = .ok (.map (some w1.heap.size)) (w1.alloc (.map #[] 0)) := rfl
  obtain ⟨n0, hn0⟩ : ∃ n0, n0 = min size data.length := ⟨_, rfl⟩
  have hmin : min (size : Int) (data.length : Int) = (n0 : Nat) := by omega
  have HN0 := Lib.hid hn0
  have hn0s : n0 ≤ size ∧ n0 ≤ data.length := by omega
  clear hn0
  go_wp2_with (fail)
  obtain ⟨W3, hW3⟩ : ∃ W3, W3 = ((w1.alloc (.map #[] 0)).alloc (.cells #[.string ⟨data.toArray⟩, .int .i64 0, .int .i64 (n0 : Nat), .int .u32 0, .bool false, .map (some w1.heap.size), .slice A l.length c] 62)).alloc (.cells #[.pointer (some ⟨w1.heap.size + 1, 0, none⟩)] 57) := ⟨_, rfl⟩
  have hb3 : Below w1.heap.size w1 W3 := by rw [hW3]; exact (((Below.refl _ _).alloc (Nat.le_refl _) _).alloc (by simp <;> omega) _).alloc (by simp <;> omega) _
  have hmap : MapIs Try.prog 31 W3 w1.heap.size 0 (fun _ => none) := (MapIs.made w1 Try.prog 31).same (by rw [hW3, Below.heap_alloc _ _ _ (by simp <;> omega), Below.heap_alloc _ _ _ (by simp <;> omega)])
  have hM3 : W3.heap[w1.heap.size + 1]? = some (.cells (mkV data 0 n0 0 false (.map (some w1.heap.size)) (.slice A l.length c)) 62 (0, 0)) := by
    rw [hW3, Below.heap_alloc _ _ _ (by simp <;> omega)]
    exact heap_new' _ _ _ (by simp <;> omega)
  have hMm3 : W3.heap[w1.heap.size + 1 + 1]? = some (.cells #[.pointer (some ⟨w1.heap.size + 1, 0, none⟩)] 57 (0, 0)) := by
    rw [hW3]
    exact heap_new' _ _ _ (by simp <;> omega)
  have hD3 := (hb3.block w.heap.size hsz1).trans HD.out
  have hs3 : W3.heap.size = w1.heap.size + 1 + 1 + 1 := by rw [hW3]; simp
  rw [← hW3]
  have HB3 := Lib.hid (HB1.out.trans (hb3.mono HB1.out.size))
  clear hW3 hmk hb3 HB1 HD cD
  generalize w1.heap.size = mb at *
  have HM3 := Lib.hid (show MkAt (mb + 1) data 0 n0 (.map (some mb)) (.slice A l.length c) W3 from ⟨0, false, hM3, by omega, fun h => by cases h⟩)
  have HMm3 := Lib.hid hMm3
  have HD3 := Lib.hid hD3
  have HI0 := Lib.hid (IdxAt.none W3 l (base := W3.heap.size) hmap (by omega))
  clear hM3 hMm3 hD3 hmap
  go_loopw [9, 10, 30] (fun _ _ t30 W => ∃ (k : Nat) (f : Value → Option Value), k ≤ l.length ∧ t30 = .int .i64 (k : Nat) ∧ Hid (IdxAt W3.heap.size mb l k f W) ∧ Hid (Only (fun b => b = mb) W3 W)) (fun _ _ t30 _ => l.length - (intOf t30).toNat)
  case atStart => exact ⟨0, _, by omega, rfl, HI0, Lib.hid (Only.refl _ _)⟩
  case round =>
    clear HI0
    obtain ⟨k, f, hk, rfl, HI1, HO⟩ := hrel
    by_cases hlt : k < l.length
    · have hord : mb < W3.heap.size ∧ mb + 1 < W3.heap.size ∧ mb + 1 + 1 < W3.heap.size ∧ w.heap.size < W3.heap.size ∧ w.heap.size < mb := by omega
      have hBw : Below w.heap.size w wr := HB3.out.trans (HO.out.below (by have := HB3.out.size; omega) (fun b hb => by omega))
      have hLW := HL.out.below hBw
      obtain ⟨g, rfl, -, hgl, -⟩ := hLW.at_ hlt
      have hrng := rowsE_range blkV_length hLW hlt
      have hMr := HM3.out.same (w' := wr) (HO.out.block _ (by omega) (by show ¬ mb + 1 = mb; omega))
      have hMmr := (HO.out.block (mb + 1 + 1) (by omega) (by show ¬ mb + 1 + 1 = mb; omega)).trans HMm3.out
      have hws := HO.out.size
      have HBW := Lib.hid hBw
      have HMR := Lib.hid hMr
      have HMMR := Lib.hid hMmr
      have HRNG := Lib.hid hrng
      have i1 : (0 : Int) ≤ (k : Int) := by omega
      have i2 : (k : Int) < (l.length : Int) := by omega
      have hbw := HB32.out _ (List.getElem_mem hlt)
      have HPUT := Lib.hid (fun (W : World) (h : IdxAt W3.heap.size mb l k f W) (hb : W3.heap.size ≤ W.heap.size) o w5 v' hg hown hl => IdxAt.put h hb hlt hbw (o := o) (w5 := w5) (v' := v') hg hown hl)
      clear hBw hLW hrng hMr hMmr
      generalize hb0 : l[k] = b at *
      have HB0 := Lib.hid hb0
      clear hb0
      go_wp2_with (first | (refine wpList_load_mid rfl 33 _ rfl g (k * 3) rfl (blkV b) _ HRNG.out Try.underlying33 rfl info_BlockS ?_) | (refine wpList_store_row rfl 33 _ _ rfl wr.heap.size (blkV b).toArray #[.int .u32 0, .string ⟨#[]⟩, .int .i64 0] 33 rfl rfl (heap_alloc_new wr _) rfl info_BlockS (by simp [blkV, Value.oneCell']) ?_))
      intro W4 hg4 hs4 hb4
      have hs4' : W4.heap.size = wr.heap.size + 1 := hs4.trans (by simp)
      have hB4 : ∀ b, b < wr.heap.size → W4.heap[b]? = wr.heap[b]? := fun b hb => by
        rw [hg4.block b (by simp <;> omega) (fun e => by injection e with e; omega)]
        exact Below.heap_alloc _ _ _ hb
      have hI4 : IdxAt W3.heap.size mb l k f W4 := HI1.out.keep (hB4 mb (by omega)) (fun b hb hlt => hB4 b hlt)
      have hO4 : Only (fun b => b = mb) W3 W4 := ⟨hg4.os.trans HO.out.os, hg4.tape.trans HO.out.tape, hg4.output.trans HO.out.output, by omega, fun b hb hn => (hB4 b (by omega)).trans (HO.out.block b hb hn)⟩
      have hM4 := HMR.out.same (hB4 _ (by omega))
      have hMm4 := (hB4 (mb + 1 + 1) (by omega)).trans HMMR.out
      have m5 := hM4.cells.2.2.2.1
      have mm := cell_of_row W4 (mb + 1 + 1) 0 _ _ _ hMm4
      have c0 := cell_of_row W4 wr.heap.size 0 _ _ _ hb4
      simp [blkV] at mm c0
      have hvb : ∀ e, (slotOf f b.w).ownBlock = some e → W3.heap.size ≤ e ∧ e < wr.heap.size := fun e he => (HI1.out.rows b.w hbw).lt e he
      have hrow4 := hI4.rows b.w hbw
      have hlook := fun W (h : IdxAt W3.heap.size mb l k f W) => h.look hbw
      have hI4d : IdxAt W3.heap.size mb l k f (World.drew W4) := hI4.keep rfl (fun _ _ _ => rfl)
      have hI4a : ∀ o, IdxAt W3.heap.size mb l k f (World.drew (W4.alloc o)) := fun o => hI4.keep (Below.heap_alloc _ _ _ (by omega)) (fun b _ hb => Below.heap_alloc _ _ _ hb)
      obtain ⟨Aq, cq, hsl, hcq1, hcq2, -⟩ := IsSlice.of_own hrow4
      have hl1 := hlook _ hI4d
      have hl2 := fun o => hlook _ (hI4a o)
      have hnil := idxs_length l b.w k
      have HPX := HPUT.out W4 hI4 (by omega)
      have HOWN := Lib.hid (fun o => show (World.drew (W4.alloc o)).ownsRow W3.heap.size 3 1 (slotOf f b.w) (idxs l b.w k).length (natsV (idxs l b.w k)) from hrow4.alloc o)
      rw [hsl] at hl1 hl2 hvb HOWN HPX
      generalize hnq : (idxs l b.w k).length = nq at *
      have s3 : (World.drew W4).cell? ⟨mb + 1 + 1, 0, none⟩ = some (.pointer (some ⟨mb + 1, 0, none⟩)) ∧ (World.drew W4).cell? ⟨mb + 1, 5, none⟩ = some (.map (some mb)) ∧ (World.drew W4).cell? ⟨wr.heap.size, 0, none⟩ = some (.int .u32 (b.w : Nat)) := ⟨mm, m5, c0⟩
      have s4 : ∀ o, (World.drew (W4.alloc o)).cell? ⟨mb + 1 + 1, 0, none⟩ = some (.pointer (some ⟨mb + 1, 0, none⟩)) ∧ (World.drew (W4.alloc o)).cell? ⟨mb + 1, 5, none⟩ = some (.map (some mb)) ∧ (World.drew (W4.alloc o)).cell? ⟨wr.heap.size, 0, none⟩ = some (.int .u32 (b.w : Nat)) := by
        intro o
        have hbo : Below W4.heap.size W4 (World.drew (W4.alloc o)) := ((Below.refl _ _).alloc (Nat.le_refl _) o).drew
        exact ⟨(hbo.cell (p := ⟨mb + 1 + 1, 0, none⟩) (by show mb + 1 + 1 < _; omega)).trans mm, (hbo.cell (p := ⟨mb + 1, 5, none⟩) (by show mb + 1 < _; omega)).trans m5, (hbo.cell (p := ⟨wr.heap.size, 0, none⟩) (by show wr.heap.size < _; omega)).trans c0⟩
      have hp : ∀ o w5 g5 cap5, (World.drew (W4.alloc o)).grownBy w5 (Value.slice Aq nq cq).ownBlock → w5.ownsRow W3.heap.size 3 1 (.slice (some ⟨g5, 0, none⟩) (nq + 1) cap5) (nq + 1) (natsV (idxs l b.w k) ++ [.int .i64 (k : Nat)]) → ((Value.slice Aq nq cq).ownBlock = some g5 ∨ g5 = W4.heap.size + 1) →
          ∃ f' w6, (Instr.mapUpdate 60 (.map (some mb)) (.int .u32 (b.w : Nat)) (.slice (some ⟨g5, 0, none⟩) (nq + 1) cap5)).run Try.prog w5 = .ok () w6 ∧ (IdxAt W3.heap.size mb l (k + 1) f' w6 ∧ Only (fun b => b = mb ∨ W3.heap.size ≤ b) W4 w6) ∧
            (w5.cell? ⟨mb + 1 + 1, 0, none⟩ = some (.pointer (some ⟨mb + 1, 0, none⟩)) ∧ w5.cell? ⟨mb + 1, 5, none⟩ = some (.map (some mb)) ∧ w5.cell? ⟨wr.heap.size, 0, none⟩ = some (.int .u32 (b.w : Nat))) ∧
            (w6.cell? ⟨mb + 1 + 1, 0, none⟩ = some (.pointer (some ⟨mb + 1, 0, none⟩)) ∧ w6.cell? ⟨mb + 1, 5, none⟩ = some (.map (some mb)) ∧ w6.cell? ⟨wr.heap.size, 0, none⟩ = some (.int .u32 (b.w : Nat))) := by
        intro o w5 g5 cap5 hg hown hlies
        obtain ⟨f', w6, hup, hI6, hO6, hB6⟩ := HPX o w5 _ hg hown (fun e he => by
          injection he with he
          subst he
          rcases hlies with h | h
          · exact .inl h
          · exact .inr (by show W4.heap.size ≤ g5; omega))
        have h5 : ∀ e, e < W4.heap.size → (Value.slice Aq nq cq).ownBlock ≠ some e → w5.heap[e]? = W4.heap[e]? := fun e he hn => by
          rw [hg.block e (by simp; omega) (fun h => hn h.symm)]
          exact Below.heap_alloc _ _ _ he
        have hc5 : ∀ e i, e < W4.heap.size → (Value.slice Aq nq cq).ownBlock ≠ some e → w5.cell? ⟨e, i, none⟩ = W4.cell? ⟨e, i, none⟩ := fun e i he hn => by unfold World.cell?; simp only [h5 e he hn]
        have hc6 : ∀ e i, e ≠ mb → w6.cell? ⟨e, i, none⟩ = w5.cell? ⟨e, i, none⟩ := fun e i he => by unfold World.cell?; simp only [hB6 e he]
        have hn : ∀ e, e < W3.heap.size ∨ e = wr.heap.size → (Value.slice Aq nq cq).ownBlock ≠ some e := fun e he h => by have := hvb e h; omega
        have q1 := (hc5 (mb + 1 + 1) 0 (by omega) (hn _ (.inl (by omega)))).trans mm
        have q2 := (hc5 (mb + 1) 5 (by omega) (hn _ (.inl (by omega)))).trans m5
        have q3 := (hc5 wr.heap.size 0 (by omega) (hn _ (.inr rfl))).trans c0
        exact ⟨f', w6, hup, ⟨hI6, hO6⟩, ⟨q1, q2, q3⟩, ⟨(hc6 _ _ (by omega)).trans q1, (hc6 _ _ (by omega)).trans q2, (hc6 _ _ (by omega)).trans q3⟩⟩
      have HP := Lib.hid hp
      clear hp HPX hrow4 hlook hI4d hI4a hvb
      have HI4 := Lib.hid hI4
      have HO4 := Lib.hid hO4
      clear hI4 hO4 hM4 hMm4 hb4 hg4 hs4 hB4 HI1 HO HRNG HMR HMMR
      have hle4 : W3.heap.size ≤ W4.heap.size := by omega
      have HS4 := Lib.hid hs4'
      clear hs4'
      generalize wr.heap.size = bb at *
      go_wp2_with (fail)
      go_region_held3 (fun W => W.cell? ⟨mb + 1 + 1, 0, none⟩ = some (.pointer (some ⟨mb + 1, 0, none⟩)) ∧ W.cell? ⟨mb + 1, 5, none⟩ = some (.map (some mb)) ∧ W.cell? ⟨bb, 0, none⟩ = some (.int .u32 (b.w : Nat))) (first | exact s3 | exact s4 _ | exact s5 | exact s6) (first
        | (rw [if_pos (by rfl)]; refine wp_append_lies _ _ _ 63 rfl W3.heap.size 3 it0 (.int .i64 0) 1 8 Try.underlying63 HI.out hy0 hy1 hy2 rfl (by decide) _ _ _ rfl (HOWN.out _) ⟨W4.heap.size, 0, none⟩ 1 1 [.int .i64 (k : Nat)] rfl rfl (laid_one W4 _ _) (one_oneCell rfl) (by decide) (by unfold maxLen; omega) (by omega) (by simp <;> omega) _ rfl ?_; intro g5 cap5 w5 hown5 hg5 hl5 hlt5; obtain ⟨f', w6, hup, hfin, s5, s6⟩ := HP.out _ w5 g5 cap5 hg5 hown5 (Or.imp (fun h => h) (fun h => h.trans (by simp)) hl5)))
      all_goals
        have HF := Lib.hid (And.intro hfin.1 (only_up HO4.out hfin.2))
        clear hfin hup s3 s4 s5 s6 hl1 hl2 hg5 hown5 hl5
        go_wp2_with (fail)
        go_roundw
        case rel => exact ⟨k + 1, _, by omega, by go_num, Lib.hid HF.out.1, Lib.hid HF.out.2⟩
        case measure => simp [intOf]; omega
    · obtain rfl : k = l.length := by omega
      have hord : mb < W3.heap.size ∧ mb + 1 < W3.heap.size ∧ mb + 1 + 1 < W3.heap.size ∧ w.heap.size < W3.heap.size ∧ w.heap.size < mb := by omega
      have hws := HO.out.size
      have HBW := Lib.hid (show Below w.heap.size w wr from HB3.out.trans (HO.out.below (by have := HB3.out.size; omega) (fun b hb => by omega)))
      have hMr := HM3.out.same (w' := wr) (HO.out.block _ (by omega) (by show ¬ mb + 1 = mb; omega))
      have hMmr := (HO.out.block (mb + 1 + 1) (by omega) (by show ¬ mb + 1 + 1 = mb; omega)).trans HMm3.out
      have hDr := (HO.out.block w.heap.size (by omega) (by show ¬ w.heap.size = mb; omega)).trans HD3.out
      have hmf : ∀ (fn : Fn) (first cap : Array Value) (W : World), (Instr.makeFunc fn first cap).run Try.prog W = .ok (.func fn first cap) W := fun _ _ _ _ => rfl
      obtain ⟨W5, hW5⟩ : ∃ W5, W5 = (wr.alloc (.cells #[.slice none 0 0] 34)).alloc (.cells #[.int .i64 0] 3) := ⟨_, rfl⟩
      have hb5 : Below wr.heap.size wr W5 := by rw [hW5]; exact ((Below.refl _ _).alloc (Nat.le_refl _) _).alloc (by simp) _
      have hs5 : W5.heap.size = wr.heap.size + 1 + 1 := by rw [hW5]; simp
      have hO5 : W5.heap[wr.heap.size]? = some (.cells #[.slice none 0 0] 34 (0, 0)) := by
        rw [hW5, Below.heap_alloc _ _ _ (by simp)]
        exact heap_alloc_new wr _
      have hF5 : W5.heap[wr.heap.size + 1]? = some (.cells #[.int .i64 0] 3 (0, 0)) := by
        rw [hW5]
        exact heap_new' _ _ _ (by simp)
      have HMS := Lib.hid (show MS w.heap.size mb (mb + 1) (mb + 1 + 1) wr.heap.size (wr.heap.size + 1) (wr.heap.size + 1 + 1) data (.slice A l.length c) 0 n0 0 [] (.slice none 0 0) W5 from
        ⟨(hb5.block _ (by omega)).trans hDr, hMr.same (hb5.block _ (by omega)), (hb5.block _ (by omega)).trans hMmr, hO5, hF5, World.ownsRow_nil _ _ _ _, ⟨by omega, by omega, by omega, by omega, by omega, by omega⟩, by omega⟩)
      have HB5 := Lib.hid hb5
      clear hMr hMmr hDr hO5 hF5 hb5
      go_wp2_with (fail)
      rw [← hW5]
      clear hW5
      generalize wr = wq at *
      go_loopw [14, 15] (fun _ _ W => ∃ (a from' : Nat) (ops : List Stp) (v : Value), Hid (MS w.heap.size mb (mb + 1) (mb + 1 + 1) wq.heap.size (wq.heap.size + 1) (wq.heap.size + 1 + 1) data (.slice A l.length c) a (min size (data.length - a)) from' ops v W) ∧ Hid (Only (Part (mb + 1) wq.heap.size (wq.heap.size + 1) (wq.heap.size + 1 + 1)) W5 W) ∧ Hid (Mid data l size a from' ops)) (fun _ _ W => data.length - intOf ((W.cell? ⟨mb + 1, 1, none⟩).getD (.int .i64 0)) |>.toNat)
      case atStart => exact ⟨0, 0, [], _, by rw [show min size (data.length - 0) = n0 by rw [HN0.out]; simp]; exact HMS, Lib.hid (Only.refl _ _), Lib.hid (Mid.start _ _ _)⟩
      case round =>
        clear HMS
        obtain ⟨a, from', ops, v, HMS, HOP, HMID⟩ := hrel
        obtain ⟨cD, cM, cN, cm, cO, cF⟩ := HMS.out.facts
        have CM0 := Lib.hid cM
        have hle := HMID.out.in_
        by_cases hlt : a < data.length
        · obtain ⟨n, hn⟩ : ∃ n, n = min size (data.length - a) := ⟨_, rfl⟩
          have hn1 : 1 ≤ n := by omega
          have hn2 : a + n ≤ data.length := by omega
          have hn3 : n ≤ 65536 := by omega
          have hpd := piece_D hn
          rw [← hn] at HMS cN
          have HN := Lib.hid hn
          clear hn
          have hoplen := HMID.out.ok.1
          have hfle := HMID.out.le
          have hbase := HMS.out.size
          have hws5 := HOP.out.size
          have hwqs := HBW.out.size
          have hBW : Below w.heap.size w wr := (HBW.out.trans (HB5.out.mono HBW.out.size)).trans (HOP.out.below (by have := HB5.out.size; omega) (fun b hb => by rcases hb with h | h | h | h <;> omega))
          have hLW := HL.out.below hBW
          have hgL : (Value.slice A l.length c).ownBlock ≠ some (mb + 1) := fun e => by have := (HL.out.lt _ e).2; omega
          have hkeep : ∀ b, W3.heap.size ≤ b ∨ b = mb → b < wq.heap.size → wr.heap[b]? = wq.heap[b]? := fun b hb hlt => by
            have hnp : ¬ Part (mb + 1) wq.heap.size (wq.heap.size + 1) (wq.heap.size + 1 + 1) b := fun h => by rcases h with h | h | h | h <;> omega
            exact (HOP.out.block b (by omega) hnp).trans (HB5.out.block b hlt)
          have hIW : IdxAt W3.heap.size mb l l.length f wr := HI1.out.keep (hkeep mb (.inr rfl) (by omega)) (fun b hb hlt => hkeep b (.inl hb) hlt)
          have hMS2 := HMS.out.below (W' := wr.drewN 0) (below_drewN (Below.refl _ _) _)
          have HMT := Lib.hid (fun W (h : W.heap = wr.heap) => dmatch_any (mb + 1) mb W3.heap.size base (.slice A l.length c) l f data a n W (HMS.out.m.same (by rw [h])) (own_keep hLW (fun b _ _ => by rw [h])) hgL (hIW.keep (by rw [h]) (fun b _ _ => by rw [h])) (by omega) (by omega) hn2 hd hn3 hl HB32.out)
          clear hMS2 hIW hkeep hLW
          rw [hpd] at HMT
          go_wp2_with (fail)
          go_quiet (fail)
          have HMS2 := Lib.hid (HMS.out.below (W' := wr.drewN nq) (below_drewN (Below.refl _ _) _))
          have HOP2 := Lib.hid (HOP.out.drewN nq)
          have hmt := HMT.out (wr.drewN nq) rfl
          have HBW2 := Lib.hid (below_drewN hBW nq)
          clear HMT HMS HOP hBW cD cM cN cm cO cF
          generalize wr.drewN nq = W6 at *
          obtain ⟨cD, cM, cN, cm, cO, cF⟩ := HMS2.out.facts
          go_wp2_with (fail)
          refine hmt.mono ?_
          rintro e W7 ⟨rfl, hg7, hm7⟩
          have HMS7 := Lib.hid (HMS2.out.maker hg7 hm7)
          have HOP7 := Lib.hid (HOP2.out.trans (only_gb hg7 (.inl rfl)))
          clear hmt hg7 hm7 HMS2 HOP2 cD cM cN cm cO cF
          obtain ⟨cD, cM, cN, cm, cO, cF⟩ := HMS7.out.facts
          cases hm : matchP l (pieceD data size a) with
          | none =>
            rw [matchI_none hm]
            have HMID2 := Lib.hid (HMID.out.next_none hs hlt hm)
            clear hm
            have hon := won_any (mb + 1) data a n 1 size (min size (data.length - (a + 1))) (.map (some mb)) (.slice A l.length c) W7 HMS7.out.m hn2 (by omega) hn1 (by omega) (by omega) hs hs2 rfl
            go_wp2_with (fail)
            refine hon.mono ?_
            rintro e W8 ⟨rfl, hg8, hm8⟩
            have HMS8 := Lib.hid (HMS7.out.maker hg8 hm8)
            have HOP8 := Lib.hid (HOP7.out.trans (only_gb hg8 (.inl rfl)))
            have c8 := hm8.cells.2.1
            clear hon hg8 hm8 HMS7 HOP7 cD cN cm cO cF
            go_wp2_with (fail)
            exact ⟨⟨a + 1, from', ops, v, HMS8, HOP8, HMID2⟩, by rw [c8, CM0.out]; simp [intOf]; omega⟩
          | some i =>
            have hil := match_lt hm
            rw [matchI_some hm]
            have HM := Lib.hid hm
            clear hm
            have hfl := flush_any HMS7.out (by omega) hd HMID.out.le (by omega)
            have hfo := flush_ok (data := data) HMID.out.ok HMID.out.le (by omega)
            have hfn := flush_len (data := data) (a := a) (from' := from') (ops := ops)
            generalize hq : flushP data from' a ops = fl at *
            have HQ := Lib.hid hq
            clear hq
            go_wp2_with (fail)
            -- some:
            refine hfl.mono ?_
            rintro e W8 ⟨rfl, ho8, v8, hms8⟩
            have HMS8 := Lib.hid hms8
            have HOP8 := Lib.hid (HOP7.out.trans ho8)
            obtain ⟨A8, c8, rfl⟩ := hms8.own.slice
            clear hfl ho8 hms8 HMS7 HOP7 cD cM cN cm cO cF
            obtain ⟨eD, eM, eN, em, eO, eF⟩ := HMS8.out.facts
            have hfo' := hfo
            have hflen := hfo.1
            rcases nil_or_last fl with rfl | ⟨init, o, rfl⟩
            · simp only [List.length_nil] at eO hflen HMS8
              have hown8 : W8.ownsRow (wq.heap.size + 1 + 1) 46 3 (.slice A8 0 c8) 0 (rowsE stpV []) := HMS8.out.own
              have HOWN8 := Lib.hid hown8
              have hsz8 := HMS8.out.size
              have HW8 := Lib.hid hsz8
              clear hown8
              have hput := fun ob w5 v' hg hown => HMS8.out.put' (ob := ob) (w5 := w5) (v' := v') (x := ⟨(i : Int), 1, []⟩) hg hown
              have HPUT := Lib.hid hput
              clear hput
              go_wp2_with (fail)
              go_quiet (fail)
              have HOWN8' := Lib.hid (show (W8.drewN nq).ownsRow _ _ _ _ _ _ from HOWN8.out)
              have e3 : (W8.drewN nq).cell? ⟨wq.heap.size, 0, none⟩ = _ := eO
              have e4 : (W8.drewN nq).frozen? ⟨wq.heap.size, 0, none⟩ = false := HMS8.out.frozen.1
              have HMSq := Lib.hid (HMS8.out.below (W' := W8.drewN nq) (below_drewN (Below.refl _ _) _))
              have HOPq := Lib.hid (HOP8.out.drewN nq)
              have hputq := fun ob w5 v' hg hown => HMSq.out.put' (ob := ob) (w5 := w5) (v' := v') (x := ⟨(i : Int), 1, []⟩) hg hown
              have HPUTq := Lib.hid hputq
              have hszq := HMSq.out.size
              have hordq := HMSq.out.ord
              clear HPUT hputq eD eM eN em eO eF HMS8 HOP8 HOWN8
              generalize W8.drewN nq = W8q at *
              go_wp2_with (at_builtin; refine wpList_append_two rfl _ _ 34 rfl (wq.heap.size + 1 + 1) 46 j0 _ 3 32 Try.underlying34 HJ.out jz0 jz1 jz2 rfl (by decide) _ _ _ rfl (HOWN8'.out.alloc _) ⟨W8q.heap.size, 0, none⟩ 1 1 (stpV ⟨(i : Int), 1, []⟩) rfl rfl (laid_rowE _ _ _) (stpV_oneCell _) ?c3 ?c4 ?c5 ?_)
              case c3 => unfold maxLen; omega
              case c4 => omega
              case c5 => simp <;> omega
              intro v9 w9 hown9 hg9 hl9
              obtain ⟨A9, c9, hv9, -⟩ := IsSlice.of_own hown9
              subst hv9
              have HP9 := Lib.hid (HPUTq.out _ w9 _ hg9 hown9)
              have hOne : (Value.slice A8 0 c8).ownBlock ≠ some wq.heap.size := fun e => by have := (HOWN8'.out.lt _ e).1; omega
              have hcO : w9.heap[wq.heap.size]? = W8q.heap[wq.heap.size]? := by
                rw [hg9.block _ (by simp <;> omega) (fun e => hOne e.symm)]
                exact Below.heap_alloc _ _ _ (by omega)
              have e5 : w9.cell? ⟨wq.heap.size, 0, none⟩ = _ := (show w9.cell? ⟨wq.heap.size, 0, none⟩ = W8q.cell? ⟨wq.heap.size, 0, none⟩ by unfold World.cell?; simp only [hcO]).trans e3
              have e6 : w9.frozen? ⟨wq.heap.size, 0, none⟩ = false := (show w9.frozen? ⟨wq.heap.size, 0, none⟩ = W8q.frozen? ⟨wq.heap.size, 0, none⟩ by unfold World.frozen?; simp only [hcO]).trans e4
              have HMS9 := Lib.hid HP9.out.1
              have HOP9 := Lib.hid (HOPq.out.trans HP9.out.2)
              clear hown9 hg9 hl9 hOne hcO e3 e4 HOWN8' HMSq HOPq HPUTq HP9
              go_wp2_with (fail)
              clear e5 e6
              generalize w9.setCell ⟨wq.heap.size, 0, none⟩ _ = W9 at *
              obtain ⟨dD, dM, dN, dm, dO, dF⟩ := HMS9.out.facts
              go_wp2_with (fail)
              refine wp_region_quiet_tail 9 (by kernel_rfl) (by kernel_rfl) ?_
              simp only [List.take, List.drop]
              repeat first
                | (go_big_quiet_want; refine quiet_load_cell 57 _ rfl _ rfl _ _ dm Try.underlying57 rfl ?_; simp only [Act.put, List.setIfInBounds_toArray, List.set_cons_succ, List.set_cons_zero]; go_big_quiet_on)
                | (go_big_quiet_want; refine quiet_load_cell 3 _ rfl _ rfl _ _ dN Try.underlying3 rfl ?_; simp only [Act.put, List.setIfInBounds_toArray, List.set_cons_succ, List.set_cons_zero]; go_big_quiet_on)
                | go_big_quiet_step (fail)
              refine wpQuiet_nil ?_
              intro W10 hW10
              have HMS10 := Lib.hid (HMS9.out.below hW10)
              have HOP10 := Lib.hid (HOP9.out.trans (Only.of_below hW10))
              have hon := won_any (mb + 1) data a n n size (min size (data.length - (a + n))) (.map (some mb)) (.slice A l.length c) W10 HMS10.out.m hn2 (by omega) hn1 (by omega) hn2 hs hs2 rfl
              clear hW10 dD dM dN dm dO dF HMS9 HOP9
              go_wp2_with (fail)
              refine hon.mono ?_
              rintro e W11 ⟨rfl, hg11, hm11⟩
              have HMS11 := Lib.hid (HMS10.out.maker hg11 hm11)
              have HOP11 := Lib.hid (HOP10.out.trans (only_gb hg11 (.inl rfl)))
              clear hon hg11 hm11 HMS10 HOP10
              have HA2 := Lib.hid (show a + n = a + n from rfl)
              generalize ha2 : a + n = a2 at HMS11
              obtain ⟨dD, dM, dN, dm, dO, dF⟩ := HMS11.out.facts
              have df := HMS11.out.frozen.2
              have HFR := Lib.hid (HMS11.out.from_ a2)
              have hM1 := HFR.out.1.facts.2.1
              have HM1 := Lib.hid hM1
              have HMIDX := Lib.hid (HMID.out.next_some hs hlt HM.out HN.out (by rw [HQ.out, copy_new (fun o (ho : ([] : List Stp).getLast? = some o) => by cases ho)]) (hfo'.add (by omega) _ ⟨by show (0 : Int) ≤ (i : Int); omega, by show (0 : Int) ≤ 1; omega, by show (i : Int) + 1 ≤ l.length; omega, by show 0 ≤ _; omega⟩))
              have HEQ := Lib.hid ha2
              clear hM1 ha2
              go_wp2_with (fail)
              exact ⟨⟨a2, a2, _, _, HFR.out.1 |> Lib.hid, Lib.hid (HOP11.out.trans HFR.out.2), by rw [← HEQ.out]; exact HMIDX⟩, by rw [HM1.out, CM0.out, ← HEQ.out]; simp [intOf]; omega⟩
            · have hol := hfo.last
              obtain ⟨g8, rfl, hgb, hgl, k0, k1, k2, kf⟩ := HMS8.out.own.at_ (k := init.length) (by simp)
              simp only [get_last] at k0 k1 k2
              have hlen : (init ++ [o]).length = init.length + 1 := by simp
              have hlz : ((init ++ [o]).length : Int) - 1 = (init.length : Int) := by omega
              have i1 : (0 : Int) ≤ (init.length : Int) := by omega
              have i2 : (init.length : Int) < ((init ++ [o]).length : Int) := by omega
              have kf1 := kf (init.length * 3 + 1)
              by_cases q1 : 0 < o.count ∧ o.from' + o.count = i
              case pos =>
                obtain ⟨of, oc, ot⟩ := o
                simp only at k0 k1 k2 hol q1
                have e1 : decide ((0 : Int) < oc) = true := decide_eq_true q1.1
                have e2 : (of + oc == (i : Int)) = true := by rw [beq_iff_eq]; exact q1.2
                have HQ1 := Lib.hid q1
                clear q1
                go_wp2_with (fail)
                go_quiet (fail)
                have HMSq := Lib.hid (HMS8.out.below (W' := W8.drewN nq) (below_drewN (Below.refl _ _) _))
                have HOPq := Lib.hid (HOP8.out.drewN nq)
                have e3 : (W8.drewN nq).cell? ⟨wq.heap.size, 0, none⟩ = _ := eO
                have k3 : (W8.drewN nq).cell? ⟨g8, init.length * 3 + 1, none⟩ = _ := k1
                have k4 : (W8.drewN nq).frozen? ⟨g8, init.length * 3 + 1, none⟩ = false := kf1
                clear eD eM eN em eO eF HMS8 HOP8 k0 k1 k2 kf kf1
                generalize W8.drewN nq = W8q at *
                have HP9 := Lib.hid (HMSq.out.count (oc + 1))
                go_wp2_with (fail)
                have HMS9 := Lib.hid HP9.out.1
                have HOP9 := Lib.hid (HOPq.out.trans HP9.out.2)
                clear HP9 HMSq HOPq e3 k3 k4
                generalize W8q.setCell ⟨g8, init.length * 3 + 1, none⟩ (.int .i64 (oc + 1)) = W9 at *
                rw [hlen] at HMS9
                obtain ⟨dD, dM, dN, dm, dO, dF⟩ := HMS9.out.facts
                go_wp2_with (fail)
                refine wp_region_quiet_tail 9 (by kernel_rfl) (by kernel_rfl) ?_
                simp only [List.take, List.drop]
                repeat first
                  | (go_big_quiet_want; refine quiet_load_cell 57 _ rfl _ rfl _ _ dm Try.underlying57 rfl ?_; simp only [Act.put, List.setIfInBounds_toArray, List.set_cons_succ, List.set_cons_zero]; go_big_quiet_on)
                  | (go_big_quiet_want; refine quiet_load_cell 3 _ rfl _ rfl _ _ dN Try.underlying3 rfl ?_; simp only [Act.put, List.setIfInBounds_toArray, List.set_cons_succ, List.set_cons_zero]; go_big_quiet_on)
                  | go_big_quiet_step (fail)
                refine wpQuiet_nil ?_
                intro W10 hW10
                have HMS10 := Lib.hid (HMS9.out.below hW10)
                have HOP10 := Lib.hid (HOP9.out.trans (Only.of_below hW10))
                have hon := won_any (mb + 1) data a n n size (min size (data.length - (a + n))) (.map (some mb)) (.slice A l.length c) W10 HMS10.out.m hn2 (by omega) hn1 (by omega) hn2 hs hs2 rfl
                clear hW10 dD dM dN dm dO dF HMS9 HOP9
                go_wp2_with (fail)
                refine hon.mono ?_
                rintro e W11 ⟨rfl, hg11, hm11⟩
                have HMS11 := Lib.hid (HMS10.out.maker hg11 hm11)
                have HOP11 := Lib.hid (HOP10.out.trans (only_gb hg11 (.inl rfl)))
                clear hon hg11 hm11 HMS10 HOP10
                have HA2 := Lib.hid (show a + n = a + n from rfl)
                generalize ha2 : a + n = a2 at HMS11
                obtain ⟨dD, dM, dN, dm, dO, dF⟩ := HMS11.out.facts
                have df := HMS11.out.frozen.2
                have HFR := Lib.hid (HMS11.out.from_ a2)
                have hM1 := HFR.out.1.facts.2.1
                have HM1 := Lib.hid hM1
                have HMIDX := Lib.hid (HMID.out.next_some hs hlt HM.out HN.out (by rw [HQ.out, copy_last HQ1.out.1 HQ1.out.2]) (hfo'.turn (by omega) ⟨of, oc + 1, ot⟩ ⟨hol.1, by show 0 ≤ oc + 1; omega, by show of + (oc + 1) ≤ _; have := HQ1.out.2; omega, by show ot.length ≤ _; omega⟩))
                have HEQ := Lib.hid ha2
                clear hM1 ha2
                go_wp2_with (fail)
                exact ⟨⟨a2, a2, _, _, HFR.out.1 |> Lib.hid, Lib.hid (HOP11.out.trans HFR.out.2), by rw [← HEQ.out]; exact HMIDX⟩, by rw [HM1.out, CM0.out, ← HEQ.out]; simp [intOf]; omega⟩
              case neg =>
                have hno : ∀ p, (init ++ [o]).getLast? = some p → ¬ (0 < p.count ∧ p.from' + p.count = i) := by
                  intro p hp
                  simp at hp
                  subst hp; exact q1
                obtain ⟨of, oc, ot⟩ := o
                simp only at k0 k1 k2 hol q1
                have HNO := Lib.hid hno
                clear hno
                by_cases q2 : 0 < oc
                case pos =>
                  have e1 : decide ((0 : Int) < oc) = true := decide_eq_true q2
                  have e2 : (of + oc == (i : Int)) = false := by rw [beq_eq_false_iff_ne]; exact fun h => q1 ⟨q2, h⟩
                  clear q1
                  have hown8 : W8.ownsRow (wq.heap.size + 1 + 1) 46 3 (.slice (some ⟨g8, 0, none⟩) (init.length + 1) c8) (init.length + 1) (rowsE stpV (init ++ [⟨of, oc, ot⟩])) := by have h := HMS8.out.own; unfold OpsAt at h; rw [hlen] at h; exact h
                  have HOWN8 := Lib.hid hown8
                  have hsz8 := HMS8.out.size
                  have HW8 := Lib.hid hsz8
                  clear hown8
                  have hput := fun ob w5 v' hg hown => HMS8.out.put' (ob := ob) (w5 := w5) (v' := v') (x := ⟨(i : Int), 1, []⟩) hg hown
                  rw [hlen] at hput
                  have HPUT := Lib.hid hput
                  clear hput
                  go_wp2_with (fail)
                  go_quiet (fail)
                  have HOWN8' := Lib.hid (show (W8.drewN nq).ownsRow _ _ _ _ _ _ from HOWN8.out)
                  have e3 : (W8.drewN nq).cell? ⟨wq.heap.size, 0, none⟩ = _ := eO
                  have e4 : (W8.drewN nq).frozen? ⟨wq.heap.size, 0, none⟩ = false := HMS8.out.frozen.1
                  have HMSq := Lib.hid (HMS8.out.below (W' := W8.drewN nq) (below_drewN (Below.refl _ _) _))
                  have HOPq := Lib.hid (HOP8.out.drewN nq)
                  have hputq := fun ob w5 v' hg hown => HMSq.out.put' (ob := ob) (w5 := w5) (v' := v') (x := ⟨(i : Int), 1, []⟩) hg hown
                  rw [hlen] at hputq
                  have HPUTq := Lib.hid hputq
                  have hszq := HMSq.out.size
                  have hordq := HMSq.out.ord
                  clear HPUT hputq eD eM eN em eO eF HMS8 HOP8 HOWN8
                  generalize W8.drewN nq = W8q at *
                  go_wp2_with (at_builtin; refine wpList_append_two rfl _ _ 34 rfl (wq.heap.size + 1 + 1) 46 j0 _ 3 32 Try.underlying34 HJ.out jz0 jz1 jz2 rfl (by decide) _ _ _ rfl (HOWN8'.out.alloc _) ⟨W8q.heap.size, 0, none⟩ 1 1 (stpV ⟨(i : Int), 1, []⟩) rfl rfl (laid_rowE _ _ _) (stpV_oneCell _) ?c3 ?c4 ?c5 ?_)
                  case c3 => unfold maxLen; omega
                  case c4 => omega
                  case c5 => simp <;> omega
                  intro v9 w9 hown9 hg9 hl9
                  obtain ⟨A9, c9, hv9, -⟩ := IsSlice.of_own hown9
                  subst hv9
                  have HP9 := Lib.hid (HPUTq.out _ w9 _ hg9 hown9)
                  have hOne : (Value.slice (some ⟨g8, 0, none⟩) (init.length + 1) c8).ownBlock ≠ some wq.heap.size := fun e => by have := (HOWN8'.out.lt _ e).1; omega
                  have hcO : w9.heap[wq.heap.size]? = W8q.heap[wq.heap.size]? := by
                    rw [hg9.block _ (by simp <;> omega) (fun e => hOne e.symm)]
                    exact Below.heap_alloc _ _ _ (by omega)
                  have e5 : w9.cell? ⟨wq.heap.size, 0, none⟩ = _ := (show w9.cell? ⟨wq.heap.size, 0, none⟩ = W8q.cell? ⟨wq.heap.size, 0, none⟩ by unfold World.cell?; simp only [hcO]).trans e3
                  have e6 : w9.frozen? ⟨wq.heap.size, 0, none⟩ = false := (show w9.frozen? ⟨wq.heap.size, 0, none⟩ = W8q.frozen? ⟨wq.heap.size, 0, none⟩ by unfold World.frozen?; simp only [hcO]).trans e4
                  have HMS9 := Lib.hid HP9.out.1
                  have HOP9 := Lib.hid (HOPq.out.trans HP9.out.2)
                  clear hown9 hg9 hl9 hOne hcO e3 e4 HOWN8' HMSq HOPq HPUTq HP9
                  go_wp2_with (fail)
                  clear e5 e6
                  generalize w9.setCell ⟨wq.heap.size, 0, none⟩ _ = W9 at *
                  obtain ⟨dD, dM, dN, dm, dO, dF⟩ := HMS9.out.facts
                  go_wp2_with (fail)
                  refine wp_region_quiet_tail 9 (by kernel_rfl) (by kernel_rfl) ?_
                  simp only [List.take, List.drop]
                  repeat first
                    | (go_big_quiet_want; refine quiet_load_cell 57 _ rfl _ rfl _ _ dm Try.underlying57 rfl ?_; simp only [Act.put, List.setIfInBounds_toArray, List.set_cons_succ, List.set_cons_zero]; go_big_quiet_on)
                    | (go_big_quiet_want; refine quiet_load_cell 3 _ rfl _ rfl _ _ dN Try.underlying3 rfl ?_; simp only [Act.put, List.setIfInBounds_toArray, List.set_cons_succ, List.set_cons_zero]; go_big_quiet_on)
                    | go_big_quiet_step (fail)
                  refine wpQuiet_nil ?_
                  intro W10 hW10
                  have HMS10 := Lib.hid (HMS9.out.below hW10)
                  have HOP10 := Lib.hid (HOP9.out.trans (Only.of_below hW10))
                  have hon := won_any (mb + 1) data a n n size (min size (data.length - (a + n))) (.map (some mb)) (.slice A l.length c) W10 HMS10.out.m hn2 (by omega) hn1 (by omega) hn2 hs hs2 rfl
                  clear hW10 dD dM dN dm dO dF HMS9 HOP9
                  go_wp2_with (fail)
                  refine hon.mono ?_
                  rintro e W11 ⟨rfl, hg11, hm11⟩
                  have HMS11 := Lib.hid (HMS10.out.maker hg11 hm11)
                  have HOP11 := Lib.hid (HOP10.out.trans (only_gb hg11 (.inl rfl)))
                  clear hon hg11 hm11 HMS10 HOP10
                  have HA2 := Lib.hid (show a + n = a + n from rfl)
                  generalize ha2 : a + n = a2 at HMS11
                  obtain ⟨dD, dM, dN, dm, dO, dF⟩ := HMS11.out.facts
                  have df := HMS11.out.frozen.2
                  have HFR := Lib.hid (HMS11.out.from_ a2)
                  have hM1 := HFR.out.1.facts.2.1
                  have HM1 := Lib.hid hM1
                  have HMIDX := Lib.hid (HMID.out.next_some hs hlt HM.out HN.out (by rw [HQ.out, copy_new HNO.out]) (hfo'.add (by omega) _ ⟨by show (0 : Int) ≤ (i : Int); omega, by show (0 : Int) ≤ 1; omega, by show (i : Int) + 1 ≤ l.length; omega, by show 0 ≤ _; omega⟩))
                  have HEQ := Lib.hid ha2
                  clear hM1 ha2
                  go_wp2_with (fail)
                  exact ⟨⟨a2, a2, _, _, HFR.out.1 |> Lib.hid, Lib.hid (HOP11.out.trans HFR.out.2), by rw [← HEQ.out]; exact HMIDX⟩, by rw [HM1.out, CM0.out, ← HEQ.out]; simp [intOf]; omega⟩
                case neg =>
                  have e1 : decide ((0 : Int) < oc) = false := decide_eq_false q2
                  clear q1
                  have hown8 : W8.ownsRow (wq.heap.size + 1 + 1) 46 3 (.slice (some ⟨g8, 0, none⟩) (init.length + 1) c8) (init.length + 1) (rowsE stpV (init ++ [⟨of, oc, ot⟩])) := by have h := HMS8.out.own; unfold OpsAt at h; rw [hlen] at h; exact h
                  have HOWN8 := Lib.hid hown8
                  have hsz8 := HMS8.out.size
                  have HW8 := Lib.hid hsz8
                  clear hown8
                  have hput := fun ob w5 v' hg hown => HMS8.out.put' (ob := ob) (w5 := w5) (v' := v') (x := ⟨(i : Int), 1, []⟩) hg hown
                  rw [hlen] at hput
                  have HPUT := Lib.hid hput
                  clear hput
                  go_wp2_with (fail)
                  go_quiet (fail)
                  have HOWN8' := Lib.hid (show (W8.drewN nq).ownsRow _ _ _ _ _ _ from HOWN8.out)
                  have e3 : (W8.drewN nq).cell? ⟨wq.heap.size, 0, none⟩ = _ := eO
                  have e4 : (W8.drewN nq).frozen? ⟨wq.heap.size, 0, none⟩ = false := HMS8.out.frozen.1
                  have HMSq := Lib.hid (HMS8.out.below (W' := W8.drewN nq) (below_drewN (Below.refl _ _) _))
                  have HOPq := Lib.hid (HOP8.out.drewN nq)
                  have hputq := fun ob w5 v' hg hown => HMSq.out.put' (ob := ob) (w5 := w5) (v' := v') (x := ⟨(i : Int), 1, []⟩) hg hown
                  rw [hlen] at hputq
                  have HPUTq := Lib.hid hputq
                  have hszq := HMSq.out.size
                  have hordq := HMSq.out.ord
                  clear HPUT hputq eD eM eN em eO eF HMS8 HOP8 HOWN8
                  generalize W8.drewN nq = W8q at *
                  go_wp2_with (at_builtin; refine wpList_append_two rfl _ _ 34 rfl (wq.heap.size + 1 + 1) 46 j0 _ 3 32 Try.underlying34 HJ.out jz0 jz1 jz2 rfl (by decide) _ _ _ rfl (HOWN8'.out.alloc _) ⟨W8q.heap.size, 0, none⟩ 1 1 (stpV ⟨(i : Int), 1, []⟩) rfl rfl (laid_rowE _ _ _) (stpV_oneCell _) ?c3 ?c4 ?c5 ?_)
                  case c3 => unfold maxLen; omega
                  case c4 => omega
                  case c5 => simp <;> omega
                  intro v9 w9 hown9 hg9 hl9
                  obtain ⟨A9, c9, hv9, -⟩ := IsSlice.of_own hown9
                  subst hv9
                  have HP9 := Lib.hid (HPUTq.out _ w9 _ hg9 hown9)
                  have hOne : (Value.slice (some ⟨g8, 0, none⟩) (init.length + 1) c8).ownBlock ≠ some wq.heap.size := fun e => by have := (HOWN8'.out.lt _ e).1; omega
                  have hcO : w9.heap[wq.heap.size]? = W8q.heap[wq.heap.size]? := by
                    rw [hg9.block _ (by simp <;> omega) (fun e => hOne e.symm)]
                    exact Below.heap_alloc _ _ _ (by omega)
                  have e5 : w9.cell? ⟨wq.heap.size, 0, none⟩ = _ := (show w9.cell? ⟨wq.heap.size, 0, none⟩ = W8q.cell? ⟨wq.heap.size, 0, none⟩ by unfold World.cell?; simp only [hcO]).trans e3
                  have e6 : w9.frozen? ⟨wq.heap.size, 0, none⟩ = false := (show w9.frozen? ⟨wq.heap.size, 0, none⟩ = W8q.frozen? ⟨wq.heap.size, 0, none⟩ by unfold World.frozen?; simp only [hcO]).trans e4
                  have HMS9 := Lib.hid HP9.out.1
                  have HOP9 := Lib.hid (HOPq.out.trans HP9.out.2)
                  clear hown9 hg9 hl9 hOne hcO e3 e4 HOWN8' HMSq HOPq HPUTq HP9
                  go_wp2_with (fail)
                  clear e5 e6
                  generalize w9.setCell ⟨wq.heap.size, 0, none⟩ _ = W9 at *
                  obtain ⟨dD, dM, dN, dm, dO, dF⟩ := HMS9.out.facts
                  go_wp2_with (fail)
                  refine wp_region_quiet_tail 9 (by kernel_rfl) (by kernel_rfl) ?_
                  simp only [List.take, List.drop]
                  repeat first
                    | (go_big_quiet_want; refine quiet_load_cell 57 _ rfl _ rfl _ _ dm Try.underlying57 rfl ?_; simp only [Act.put, List.setIfInBounds_toArray, List.set_cons_succ, List.set_cons_zero]; go_big_quiet_on)
                    | (go_big_quiet_want; refine quiet_load_cell 3 _ rfl _ rfl _ _ dN Try.underlying3 rfl ?_; simp only [Act.put, List.setIfInBounds_toArray, List.set_cons_succ, List.set_cons_zero]; go_big_quiet_on)
                    | go_big_quiet_step (fail)
                  refine wpQuiet_nil ?_
                  intro W10 hW10
                  have HMS10 := Lib.hid (HMS9.out.below hW10)
                  have HOP10 := Lib.hid (HOP9.out.trans (Only.of_below hW10))
                  have hon := won_any (mb + 1) data a n n size (min size (data.length - (a + n))) (.map (some mb)) (.slice A l.length c) W10 HMS10.out.m hn2 (by omega) hn1 (by omega) hn2 hs hs2 rfl
                  clear hW10 dD dM dN dm dO dF HMS9 HOP9
                  go_wp2_with (fail)
                  refine hon.mono ?_
                  rintro e W11 ⟨rfl, hg11, hm11⟩
                  have HMS11 := Lib.hid (HMS10.out.maker hg11 hm11)
                  have HOP11 := Lib.hid (HOP10.out.trans (only_gb hg11 (.inl rfl)))
                  clear hon hg11 hm11 HMS10 HOP10
                  have HA2 := Lib.hid (show a + n = a + n from rfl)
                  generalize ha2 : a + n = a2 at HMS11
                  obtain ⟨dD, dM, dN, dm, dO, dF⟩ := HMS11.out.facts
                  have df := HMS11.out.frozen.2
                  have HFR := Lib.hid (HMS11.out.from_ a2)
                  have hM1 := HFR.out.1.facts.2.1
                  have HM1 := Lib.hid hM1
                  have HMIDX := Lib.hid (HMID.out.next_some hs hlt HM.out HN.out (by rw [HQ.out, copy_new HNO.out]) (hfo'.add (by omega) _ ⟨by show (0 : Int) ≤ (i : Int); omega, by show (0 : Int) ≤ 1; omega, by show (i : Int) + 1 ≤ l.length; omega, by show 0 ≤ _; omega⟩))
                  have HEQ := Lib.hid ha2
                  clear hM1 ha2
                  go_wp2_with (fail)
                  exact ⟨⟨a2, a2, _, _, HFR.out.1 |> Lib.hid, Lib.hid (HOP11.out.trans HFR.out.2), by rw [← HEQ.out]; exact HMIDX⟩, by rw [HM1.out, CM0.out, ← HEQ.out]; simp [intOf]; omega⟩
            -- end
        · have ha : a = data.length := by omega
          have hbase := HMS.out.size
          have hws5 := HOP.out.size
          have hwqs := HBW.out.size
          have hBW : Below w.heap.size w wr := (HBW.out.trans (HB5.out.mono HBW.out.size)).trans (HOP.out.below (by have := HB5.out.size; omega) (fun b hb => by rcases hb with h | h | h | h <;> omega))
          have hoplen := HMID.out.ok.1
          have hfle := HMID.out.le
          subst ha
          have hdone := HMID.out.done
          go_wp2_with (fail)
          go_quiet (fail)
          have hfl := flush_any (HMS.out.below (W' := wr.drewN nq) (below_drewN (Below.refl _ _) _)) (Nat.le_refl _) hd HMID.out.le (by omega)
          rw [hdone] at hfl
          have HBW2 := Lib.hid (below_drewN hBW nq)
          have hsq := HBW2.out.size
          have hs6 : wq.heap.size + 1 + 1 ≤ (wr.drewN nq).heap.size := hbase
          clear HMS HOP hBW cD cM cN cm cO cF hdone
          generalize wr.drewN nq = W6 at *
          go_wp2_with (fail)
          refine hfl.mono ?_
          rintro e W7 ⟨rfl, ho7, v7, hms7⟩
          have cO7 := hms7.facts.2.2.2.2.1
          have HB7 := Lib.hid (HBW2.out.trans (ho7.below (B := w.heap.size) (by omega) (fun b hb => by rcases hb with h | h | h | h <;> omega)))
          have HOWN7 := Lib.hid (own_base hms7.own (show w.heap.size ≤ wq.heap.size + 1 + 1 by omega))
          clear hfl ho7 hms7
          go_wp2_with (fail)
          go_ret2
          exact ⟨_, rfl, HOWN7.out, HB7.out⟩
end Go.Proofs.Ytgohhhfnffhgmaa
