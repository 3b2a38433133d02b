/- hash.Sum: the strong fingerprint of a text. -/
import Derived.Test.YtgohhhfnffhgmaaSha1
import Derived.Test.YtgohhhfnffhgmaaShelf
import Derived.Test.YtgohhhfnffhgmaaPlainSha2
import Derived.Deep.RegionHeld3
import Derived.StillTailTactics
namespace Go.Proofs.Ytgohhhfnffhgmaa
open Go.RowKit Plain

/-- The worlds of hash.Sum: block B the eight words. -/
structure Sm (w wr : World) (v : S8) : Prop where
  b0 : wr.heap[w.heap.size]? = some (.cells (cells8 v) 78 (0, 0))
  below : Below w.heap.size w wr

theorem Sm.facts {w wr : World} {v : S8} (hr : Sm w wr v) :
    wr.cell? ⟨w.heap.size, 0, none⟩ = some (.int .u32 (V v.a)) ∧ wr.cell? ⟨w.heap.size, 1, none⟩ = some (.int .u32 (V v.b)) ∧
    wr.cell? ⟨w.heap.size, 2, none⟩ = some (.int .u32 (V v.c)) ∧ wr.cell? ⟨w.heap.size, 3, none⟩ = some (.int .u32 (V v.d)) ∧
    wr.cell? ⟨w.heap.size, 4, none⟩ = some (.int .u32 (V v.e)) ∧ wr.cell? ⟨w.heap.size, 5, none⟩ = some (.int .u32 (V v.f)) ∧
    wr.cell? ⟨w.heap.size, 6, none⟩ = some (.int .u32 (V v.g)) ∧ wr.cell? ⟨w.heap.size, 7, none⟩ = some (.int .u32 (V v.h)) := by
  refine ⟨?_, ?_, ?_, ?_, ?_, ?_, ?_, ?_⟩ <;> (rw [cell_of_row wr (w.heap.size) _ _ 78 (0, 0) hr.b0]; rfl)
theorem Sm.drew {w wr : World} {v : S8} (hr : Sm w wr v) : Sm w wr.drew v := ⟨hr.b0, hr.below.drew⟩
theorem Sm.keep {w wr w' : World} {v : S8} (hr : Sm w wr v) (hb : Below wr.heap.size wr w') : Sm w w' v :=
  ⟨(hb.block _ (Array.getElem?_eq_some_iff.1 hr.b0).1).trans hr.b0, hr.below.trans (hb.mono hr.below.size)⟩
theorem Sm.put {w wr w' : World} {v : S8} (hr : Sm w wr v) (hg : wr.grownBy w' (some w.heap.size)) (u : S8) (hb : w'.heap[w.heap.size]? = some (.cells (cells8 u) 78 (0, 0))) : Sm w w' u :=
  ⟨hb, below_gb hr.below hr.below.size hg (Nat.le_refl _)⟩
theorem repeat_one (c : Nat) : Lib.repeatL [0] c = List.replicate c (0 : UInt8) := by
  induction c with
  | zero => rfl
  | succ c ih => rw [List.replicate_succ, ← ih]; rfl
theorem Sm.set {w wr : World} {v : S8} (hr : Sm w wr v) {g : Nat} (hg : w.heap.size < g) (k : Nat) (x : Value) : Sm w (wr.setCell ⟨g, k, none⟩ x) v :=
  ⟨(heap_set_ne' (by omega) k x).trans hr.b0, hr.below.setCell (p := ⟨g, k, none⟩) (by show w.heap.size ≤ g; omega) x⟩
theorem conv_back' {P : Program} (w : World) (src dst e t : TypeId) (hs : P.underlying src = some (.slice e)) (he : P.underlying e = some (.int .u8)) (hd : P.underlying dst = some .string) (l : List UInt8) (b n cap : Nat) (hn : n = l.length) (C : Array Value) (m : Nat × Nat)
    (hb : w.heap[b]? = some (.cells C t m)) (hC : ∀ j (h : j < l.length), C[j]? = some (.int .u8 (l[j].toNat : Int))) :
    (convert src dst (.slice (some ⟨b, 0, none⟩) n cap)).run P w = .ok (.string ⟨l.toArray⟩) w := by
  subst hn
  exact run_convert_bytes_back w src dst e ⟨b, 0, none⟩ cap l hs he hd (fun j hj => by
    rw [show (⟨b, 0, none⟩ : Addr).add j = ⟨b, j, none⟩ by unfold Addr.add; split <;> simp_all, cell_of_row _ _ _ C t m hb]
    exact hC j hj)
theorem lt_of_heap' {w : World} {b : Nat} {o : Obj} (h : w.heap[b]? = some o) : b < w.heap.size := (Array.getElem?_eq_some_iff.1 h).1
theorem out8_get (v : S8) (i j : Nat) (hi : i < 8) (hj : j < 4) : (out8 v).getD (4 * i + j) 0 = (bytes4 (at8 v i)).getD j 0 := by
  match i, hi, j, hj with
  | 0, _, 0, _ => rfl
  | 0, _, 1, _ => rfl
  | 0, _, 2, _ => rfl
  | 0, _, 3, _ => rfl
  | 1, _, 0, _ => rfl
  | 1, _, 1, _ => rfl
  | 1, _, 2, _ => rfl
  | 1, _, 3, _ => rfl
  | 2, _, 0, _ => rfl
  | 2, _, 1, _ => rfl
  | 2, _, 2, _ => rfl
  | 2, _, 3, _ => rfl
  | 3, _, 0, _ => rfl
  | 3, _, 1, _ => rfl
  | 3, _, 2, _ => rfl
  | 3, _, 3, _ => rfl
  | 4, _, 0, _ => rfl
  | 4, _, 1, _ => rfl
  | 4, _, 2, _ => rfl
  | 4, _, 3, _ => rfl
  | 5, _, 0, _ => rfl
  | 5, _, 1, _ => rfl
  | 5, _, 2, _ => rfl
  | 5, _, 3, _ => rfl
  | 6, _, 0, _ => rfl
  | 6, _, 1, _ => rfl
  | 6, _, 2, _ => rfl
  | 6, _, 3, _ => rfl
  | 7, _, 0, _ => rfl
  | 7, _, 1, _ => rfl
  | 7, _, 2, _ => rfl
  | 7, _, 3, _ => rfl
  | i + 8, h, _, _ => omega
  | i, _, j + 4, h => omega
theorem bytes4_get (x : UInt32) (j : Nat) (hj : j < 4) : (V x / 2 ^ (24 - 8 * j)) % 256 = (((bytes4 x).getD j 0).toNat : Int) := by
  unfold V
  match j, hj with
  | 0, _ => show ((x.toNat : Int) / 2 ^ 24) % 256 = ((UInt8.ofNat (x.toNat / 16777216)).toNat : Int); rw [UInt8.toNat_ofNat']; omega
  | 1, _ => show ((x.toNat : Int) / 2 ^ 16) % 256 = ((UInt8.ofNat (x.toNat / 65536)).toNat : Int); rw [UInt8.toNat_ofNat']; omega
  | 2, _ => show ((x.toNat : Int) / 2 ^ 8) % 256 = ((UInt8.ofNat (x.toNat / 256)).toNat : Int); rw [UInt8.toNat_ofNat']; omega
  | 3, _ => show ((x.toNat : Int) / 2 ^ 0) % 256 = ((UInt8.ofNat x.toNat).toNat : Int); rw [UInt8.toNat_ofNat']; omega
  | j + 4, h => omega
theorem out_go (v : S8) (i j : Nat) (hi : i < 8) (hj : j < 4) : (V (at8 v i) / 2 ^ (24 - 8 * j)) % 256 = (((out8 v).getD (4 * i + j) 0).toNat : Int) := by
  rw [out8_get v i j hi hj, bytes4_get _ j hj]
set_option maxRecDepth 100000 in
theorem index8 (v : S8) (i : Nat) (hi : i < 8) (w : World) : (Instr.index 78 (.agg (cells8 v)) (.int .i64 i)).run Try.prog w = .ok (.int .u32 (V (at8 v i))) w := by
  have h : i = 0 ∨ i = 1 ∨ i = 2 ∨ i = 3 ∨ i = 4 ∨ i = 5 ∨ i = 6 ∨ i = 7 := by omega
  rcases h with rfl | rfl | rfl | rfl | rfl | rfl | rfl | rfl <;> first | rfl | (show _ = _; kernel_rfl) | simp [Instr.index, cells8, at8, go_sem]
def strLen : Value → Nat | .string b => b.size | _ => 0

set_option maxRecDepth 100000 in
set_option maxHeartbeats 2000000 in
theorem Sum_any (s : List UInt8) (w : World) (hs : s.length ≤ 1152921504606846975) :
    Calls Try.prog 18 #[.string ⟨s.toArray⟩] w (Ret w (.string ⟨(sha s).toArray⟩)) := by
  go_enter Try.func18, Try.ntmps18
  go_wp2_with (fail)
  go_loopw [5] (fun t5 wr => ∃ k : Nat, 64 * k ≤ s.length ∧ t5 = .string ⟨(s.drop (64 * k)).toArray⟩ ∧ Hid (Sm w wr (runB k H0 s))) (fun t5 _ => strLen t5)
  case atStart => exact ⟨0, by omega, rfl, Lib.hid ⟨heap_alloc_new w _, (Below.refl _ _).alloc (Nat.le_refl _) _⟩⟩
  case round =>
    obtain ⟨k, hk, rfl, HS⟩ := hrel
    have hl : (s.drop (64 * k)).length = s.length - 64 * k := by simp
    have hl0 : (s.drop (64 * k)).length ≤ s.length := by omega
    by_cases hlt : 64 ≤ s.length - 64 * k
    · have hstep : runB (k + 1) H0 s = round (runB k H0 s) ((s.drop (64 * k)).take 64) := by rw [runB_add]; rfl
      have hdrop : (s.drop (64 * k)).drop 64 = s.drop (64 * (k + 1)) := by rw [List.drop_drop]; congr 1
      have hlr : 64 ≤ (s.drop (64 * k)).length := by omega
      generalize s.drop (64 * k) = r at *
      generalize hv : runB k H0 s = v at *
      have HST := Lib.hid hstep
      have HDR := Lib.hid hdrop
      clear hstep hdrop hv hl
      obtain ⟨c0, c1, c2, c3, c4, c5, c6, c7⟩ := HS.out.facts
      have q1 : (64 : Int) ≤ r.length := by omega
      have q2 : (r.length : Int) ≤ 9223372036854775807 := by omega
      go_wp2_with (fail)
      go_still_tail 3, (by kernel_rfl)
      change wpList _ _ _ _ _ wr.drew
      have HS2 := Lib.hid HS.out.drew
      clear c0 c1 c2 c3 c4 c5 c6 c7 HS
      generalize wr.drew = w2 at HS2 ⊢
      go_wp2_with (fail)
      refine (round_any v (r.take 64) _ (by simp; omega)).mono ?_
      rintro e w3 ⟨rfl, hb3⟩
      have HS3 := Lib.hid (HS2.out.keep hb3)
      have HB3 := Lib.hid HS3.out.b0
      clear hb3 HS2
      go_wp2_with (refine wpList_store_row rfl 78 _ _ rfl w.heap.size ?c1 ?C1 78 ?hx1 ?hy1 ?hg1 ?hC1 ?hi1 ?h11 ?_)
      case c1 => exact cells8 (round v (r.take 64))
      case C1 => exact cells8 v
      case hx1 => rfl
      case hy1 => rfl
      case hg1 => exact HB3.out
      case hC1 => exact (cells8_size _).trans (cells8_size _).symm
      case hi1 => rw [cells8_size]; exact info8
      case h11 => exact Array.all_eq_true_iff_forall_mem.2 (fun x hx => by obtain ⟨i, hi, rfl⟩ := Array.mem_iff_getElem.1 hx; exact oneCell8 _ i hi)
      intro w5 hg5 hs5 hb5
      have HS5 := Lib.hid (HS3.out.put hg5 _ hb5)
      clear hg5 hs5 hb5 HB3 HS3
      go_wp2_with (fail)
      go_roundw
      case rel => exact ⟨k + 1, by omega, by rw [HDR.out], by rw [HST.out]; exact HS5⟩
      case measure => simp [strLen, ByteArray.size]; omega
    · have hr : (s.drop (64 * k)).length = s.length % 64 := by omega
      have hK : k = s.length / 64 := by omega
      have HD := Lib.hid (List.take_append_drop (64 * k) s)
      generalize hrr : s.drop (64 * k) = r at *
      have e1 : (119 - (r.length : Int)) % 64 = ((noughts s.length : Nat) : Int) := by unfold noughts; omega
      have hn : noughts s.length < 64 := by unfold noughts; omega
      generalize hnn : noughts s.length = c at *
      have HNN := Lib.hid hnn
      have HR := Lib.hid hr
      have HK := Lib.hid hK
      have HRR := Lib.hid hrr
      have hr64 : r.length < 64 := by omega
      clear hnn hr hK hrr hl hl0
      go_wp2_with (fail)
      have hrep := Try.strings_Repeat ⟨#[0]⟩ c wr (by omega) (by show 1 * c ≤ _; omega)
      rw [show Lib.repeatL (⟨#[0]⟩ : ByteArray).data.toList c = List.replicate c 0 from repeat_one c] at hrep
      have hz0 : (List.replicate c (0 : UInt8)).length = c := by simp
      generalize hz : List.replicate c (0 : UInt8) = z at *
      have HZ := Lib.hid hz
      have HZ0 := Lib.hid hz0
      have hz64 : z.length < 64 := by omega
      clear hz hz0
      refine hrep.mono ?_
      rintro e w2 ⟨rfl, hb2⟩
      have HS2 := Lib.hid (HS.out.keep hb2)
      have HG0 := Lib.hid (lt_of_heap' HS2.out.b0)
      clear hrep hb2 HS
      go_wp2_with (fail)
      go_loopw [7, 35] (fun _ t35 wr => ∃ (i : Nat) (C : Array Value), i ≤ 8 ∧ t35 = .int .i64 i ∧ Hid (C.size = 8) ∧ Hid (Sm w wr (runB k H0 s)) ∧ Hid (wr.heap[w2.heap.size]? = some (.cells C 82 (0, 0))) ∧ Hid (∀ j, j < i → C[j]? = some (.int .u8 (((size8 s.length).getD j 0).toNat : Int)))) (fun _ t35 _ => 8 - (intOf t35).toNat)
      case atStart => exact ⟨0, _, by omega, rfl, Lib.hid rfl, Lib.hid (HS2.out.keep ((Below.refl _ _).alloc (Nat.le_refl _) _)), Lib.hid (heap_alloc_new w2 _), Lib.hid (fun j hj => by omega)⟩
      case round =>
        clear HS2
        obtain ⟨i, C, hi, rfl, HC, HS, HB, HA⟩ := hrel
        by_cases hlt : i < 8
        · have f0 : wr.frozen? ⟨w2.heap.size, i, none⟩ = false := frozen_of_row wr _ i C 82 HB.out
          obtain ⟨v0, a0⟩ : ∃ v0, wr.cell? ⟨w2.heap.size, i, none⟩ = some v0 := by
            have hC := HC.out
            exact ⟨C[i]'(by omega), by rw [cell_of_row wr _ i C 82 (0, 0) HB.out]; exact Array.getElem?_eq_getElem (by omega)⟩
          have hi8 : (i : Int) < 8 := by omega
          have b1 : 0 ≤ 56 - 8 * (i : Int) := by omega
          have b2 : 56 - 8 * (i : Int) < 64 := by omega
          have HG := Lib.hid (size8_go s.length i hlt)
          go_wp2_with (fail)
          refine ⟨⟨i + 1, _, by omega, by go_num, Lib.hid ?_, Lib.hid (HS.out.set HG0.out i _), Lib.hid (heap_set HB.out i _), Lib.hid (set_get (by have := HC.out; omega) ?_ HA.out)⟩, by simp [intOf]; omega⟩
          · simpa using HC.out
          · rw [HG.out]
        · have hcv := conv_back' wr 68 9 5 82 Try.underlying68 Try.underlying5 Try.underlying9 (size8 s.length) w2.heap.size 8 8 rfl C (0, 0) HB.out
            (fun j hj => by
              have hj8 : j < 8 := by rw [size8_length] at hj; exact hj
              rw [HA.out j (by omega), List.getD_eq_getElem?_getD, List.getElem?_eq_getElem hj]; rfl)
          have h8 := size8_length s.length
          generalize hsz : size8 s.length = z8 at *
          have HSZ := Lib.hid hsz
          have H8 := Lib.hid h8
          have h8b : z8.length ≤ 8 := by omega
          clear hsz h8 HA HB HC
          go_wp2_with (fail)
          obtain ⟨m, hq, hsha⟩ := sha_tail s
          rw [← HK.out, HRR.out, HNN.out, HZ.out, HSZ.out] at hq hsha
          have HSHA := Lib.hid hsha
          have hqb : (r ++ 128 :: (z ++ z8)).length ≤ 200 := by simp; omega
          clear hsha
          generalize r ++ 128 :: (z ++ z8) = q at *
          generalize runB k H0 s = v1 at *
          have HQ := Lib.hid hq
          have hm : 64 * m ≤ q.length := by omega
          have hm2 : q.length ≤ 64 * m := by omega
          clear hq
          go_loopw [5] (fun t5 wr => ∃ j : Nat, j ≤ m ∧ t5 = .string ⟨(q.drop (64 * j)).toArray⟩ ∧ Hid (Sm w wr (runB j v1 q))) (fun t5 _ => strLen t5)
          case atStart => exact ⟨0, by omega, rfl, HS⟩
          case round =>
            clear HS
            obtain ⟨j, hj, rfl, HS⟩ := hrel
            have hl : (q.drop (64 * j)).length = q.length - 64 * j := by simp
            by_cases hlt : j < m
            · have hstep : runB (j + 1) v1 q = round (runB j v1 q) ((q.drop (64 * j)).take 64) := by rw [runB_add]; rfl
              have hdrop : (q.drop (64 * j)).drop 64 = q.drop (64 * (j + 1)) := by rw [List.drop_drop]; congr 1
              have hlr : 64 ≤ (q.drop (64 * j)).length := by omega
              have hl0 : (q.drop (64 * j)).length ≤ 200 := by omega
              generalize q.drop (64 * j) = r2 at *
              generalize hv : runB j v1 q = v at *
              have HST := Lib.hid hstep
              have HDR := Lib.hid hdrop
              have hne : (!r2.isEmpty) = true := by cases r2 with | nil => simp at hlr | cons => rfl
              clear hstep hdrop hv hl
              obtain ⟨c0, c1, c2, c3, c4, c5, c6, c7⟩ := HS.out.facts
              have q1 : (64 : Int) ≤ r2.length := by omega
              have q2 : (r2.length : Int) ≤ 9223372036854775807 := by omega
              go_wp2_with (fail)
              go_still_tail 3, (by kernel_rfl)
              change wpList _ _ _ _ _ wr.drew
              have HS2 := Lib.hid HS.out.drew
              clear c0 c1 c2 c3 c4 c5 c6 c7 HS
              generalize wr.drew = w3 at HS2 ⊢
              go_wp2_with (fail)
              refine (round_any v (r2.take 64) _ (by simp; omega)).mono ?_
              rintro e w4 ⟨rfl, hb4⟩
              have HS3 := Lib.hid (HS2.out.keep hb4)
              have HB3 := Lib.hid HS3.out.b0
              clear hb4 HS2
              go_wp2_with (refine wpList_store_row rfl 78 _ _ rfl w.heap.size ?d1 ?D1 78 ?dx1 ?dy1 ?dg1 ?dC1 ?di1 ?d11 ?_)
              case d1 => exact cells8 (round v (r2.take 64))
              case D1 => exact cells8 v
              case dx1 => rfl
              case dy1 => rfl
              case dg1 => exact HB3.out
              case dC1 => exact (cells8_size _).trans (cells8_size _).symm
              case di1 => rw [cells8_size]; exact info8
              case d11 => exact Array.all_eq_true_iff_forall_mem.2 (fun x hx => by obtain ⟨i, hi, rfl⟩ := Array.mem_iff_getElem.1 hx; exact oneCell8 _ i hi)
              intro w5 hg5 hs5 hb5
              have HS5 := Lib.hid (HS3.out.put hg5 _ hb5)
              clear hg5 hs5 hb5 HB3 HS3
              go_wp2_with (fail)
              go_roundw
              case rel => exact ⟨j + 1, by omega, by rw [HDR.out], by rw [HST.out]; exact HS5⟩
              case measure => simp [strLen, ByteArray.size]; omega
            · have hjm : j = m := by omega
              have hnil : q.drop (64 * j) = [] := List.eq_nil_of_length_eq_zero (by omega)
              rw [hnil]
              have HSM : Hid (Sm w wr (runB m v1 q)) := hjm ▸ HS
              clear hl hnil hjm HS
              generalize runB m v1 q = v2 at *
              have HB0 := Lib.hid HSM.out.b0
              have hbl := HSM.out.below
              have HBL := Lib.hid (hbl.alloc hbl.size (.cells (Array.replicate 32 (.int .u8 0)) 83))
              have hb1 := heap_alloc_new wr (.cells (Array.replicate 32 (.int .u8 0)) 83)
              have hge := hbl.size
              obtain ⟨g2, hg2⟩ : ∃ g2, wr.heap.size = g2 := ⟨_, rfl⟩
              rw [hg2] at hb1 hge
              have HB1 := Lib.hid hb1
              have HGE := Lib.hid hge
              clear hbl HSM hb1 hge
              go_wp2_with (refine wpList_load_row rfl 78 _ rfl w.heap.size rfl 78 _ (0, 0) _ (heap_old' HB0.out) Try.underlying78 rfl (by rw [cells8_size]; exact info8) ?_)
              clear hg2
              go_loopw [9, 10, 11, 60] (fun _ _ _ t60 W => ∃ (i : Nat) (C : Array Value), i ≤ 8 ∧ t60 = .int .i64 i ∧ Hid (C.size = 32) ∧ Hid (Below w.heap.size w W) ∧ Hid (W.heap[g2]? = some (.cells C 83 (0, 0))) ∧ Hid (∀ j, j < 4 * i → C[j]? = some (.int .u8 (((out8 v2).getD j 0).toNat : Int)))) (fun _ _ _ t60 _ => 8 - (intOf t60).toNat)
              case atStart => exact ⟨0, _, by omega, rfl, Lib.hid (by simp), HBL, HB1, Lib.hid (fun j hj => by omega)⟩
              case round =>
                clear HBL HB1
                obtain ⟨i2, C2, hi2, rfl, HC, HBe, HB, HA⟩ := hrel
                by_cases hlt : i2 < 8
                · have hix := index8 v2 i2 hlt
                  have hi28 : (i2 : Int) < 8 := by omega
                  go_wp2_with (fail)
                  clear hix
                  go_loopw [11, 64] (fun _ t64 W => ∃ (j : Nat) (C : Array Value), j ≤ 4 ∧ t64 = .int .i64 j ∧ Hid (C.size = 32) ∧ Hid (Below w.heap.size w W) ∧ Hid (W.heap[g2]? = some (.cells C 83 (0, 0))) ∧ Hid (∀ a, a < 4 * i2 + j → C[a]? = some (.int .u8 (((out8 v2).getD a 0).toNat : Int)))) (fun _ t64 _ => 4 - (intOf t64).toNat)
                  case atStart => exact ⟨0, C2, by omega, rfl, HC, HBe, HB, HA⟩
                  case round =>
                    clear HC HBe HB HA
                    obtain ⟨j2, C3, hj2, rfl, HC, HBe, HB, HA⟩ := hrel
                    by_cases hlt2 : j2 < 4
                    · have f0 : wr.frozen? ⟨g2, 4 * i2 + j2, none⟩ = false := frozen_of_row wr _ _ C3 83 HB.out
                      obtain ⟨v0, a0⟩ : ∃ v0, wr.cell? ⟨g2, 4 * i2 + j2, none⟩ = some v0 := by
                        have hC := HC.out
                        exact ⟨C3[4 * i2 + j2]'(by omega), by rw [cell_of_row wr _ _ C3 83 (0, 0) HB.out]; exact Array.getElem?_eq_getElem (by omega)⟩
                      have b1 : 0 ≤ 24 - 8 * (j2 : Int) := by omega
                      have b2 : 24 - 8 * (j2 : Int) < 32 := by omega
                      have b3 : 4 * (i2 : Int) + (j2 : Int) < 32 := by omega
                      have HG := Lib.hid (out_go v2 i2 j2 hlt hlt2)
                      go_wp2_with (fail)
                      refine ⟨⟨j2 + 1, _, by omega, by go_num, Lib.hid ?_, Lib.hid (HBe.out.setCell (p := ⟨g2, 4 * i2 + j2, none⟩) HGE.out _), Lib.hid (heap_set HB.out _ _), Lib.hid (set_get (k := 4 * i2 + j2) (C := C3) (P := fun a => .int .u8 (((out8 v2).getD a 0).toNat : Int)) (by have := HC.out; omega) ?_ HA.out)⟩, by simp [intOf]; omega⟩
                      · simpa using HC.out
                      · rw [HG.out]
                    · go_wp2_with (fail)
                      exact ⟨⟨i2 + 1, C3, by omega, by go_num, HC, HBe, HB, Lib.hid (fun a ha => HA.out a (by omega))⟩, by simp [intOf]; omega⟩
                · have hcv := conv_back' wr 68 9 5 83 Try.underlying68 Try.underlying5 Try.underlying9 (out8 v2) g2 32 32 rfl C2 (0, 0) HB.out
                    (fun j hj => by
                      have hj8 : j < 32 := by rw [out8_length] at hj; exact hj
                      rw [HA.out j (by omega), List.getD_eq_getElem?_getD, List.getElem?_eq_getElem hj]; rfl)
                  rw [← HSHA.out] at hcv
                  clear HA HB HC
                  go_wp2_with (fail)
                  go_ret
                  exact ⟨rfl, HBe.out⟩
end Go.Proofs.Ytgohhhfnffhgmaa
