/- Texts joined: PlainSha2, Sha2, WriteByte, HashHex, Arch7, OpenT, Trod, Card. -/
import Derived.Test.YtjajoiahgfafgaaGreatDoorBArchSame4
import Derived.Test.YtjajoiahgfafgaaGreatDoorBArchSame10
import Derived.Test.YtjajoiahgfafgaaGreatDoorShelf
import Derived.Deep.RegionHeld3
import Derived.StillTailTactics
import Derived.Test.YtjajoiahgfafgaaGreatDoorBArchSame3
import Derived.Test.YtjajoiahgfafgaaGreatDoorBCodeBase1
import Derived.Deep.RegionLaw
import Derived.Lib.LazyBuf
import Derived.Lib.SmallJoins
import Derived.ChangeArms
import Derived.Test.YtjajoiahgfafgaaGreatDoorCards
import Derived.Test.YtjajoiahgfafgaaGreatDoorTie
import Derived.Deep.DeepHandedRow
set_option linter.unusedSimpArgs false
set_option linter.unusedVariables false

/- Plain laws of the fingerprint's last part: the bits' number, the padding, the result's bytes. -/
section
namespace Go.Proofs.YtjajoiahgfafgaaGreatDoor.Plain

theorem size8_length (n : Nat) : (size8 n).length = 8 := by simp [size8]
theorem size8_go (n i : Nat) (hi : i < 8) : ((n : Int) * 8 / 2 ^ (56 - 8 * i)) % 256 = (((size8 n).getD i 0).toNat : Int) := by
  have h1 : (size8 n).getD i 0 = UInt8.ofNat (n * 8 / 2 ^ (56 - 8 * i)) := by
    simp [size8, List.getD_eq_getElem?_getD, hi]
  rw [h1, UInt8.toNat_ofNat']
  rw [Int.natCast_emod, Int.natCast_ediv, Int.natCast_mul, Int.natCast_pow]
  rfl
theorem sha_tail (s : List UInt8) : ∃ m, (s.drop (64 * (s.length / 64)) ++ 128 :: (List.replicate (noughts s.length) 0 ++ size8 s.length)).length = 64 * m ∧
    sha s = out8 (runB m (runB (s.length / 64) H0 s) (s.drop (64 * (s.length / 64)) ++ 128 :: (List.replicate (noughts s.length) 0 ++ size8 s.length))) := by
  have hn : noughts s.length = (119 - s.length % 64) % 64 := rfl
  have hlen : (s.drop (64 * (s.length / 64)) ++ 128 :: (List.replicate (noughts s.length) 0 ++ size8 s.length)).length = s.length - 64 * (s.length / 64) + (1 + (noughts s.length + 8)) := by
    simp [size8_length]; omega
  refine ⟨(s.length + 72) / 64 - s.length / 64, by rw [hlen]; omega, ?_⟩
  unfold sha
  rw [show (s.length + 72) / 64 = s.length / 64 + ((s.length + 72) / 64 - s.length / 64) by omega, runB_add, runB_app _ _ _ _ (by omega), List.drop_append_of_le_length (by omega)]
  rw [show s.length / 64 + ((s.length + 72) / 64 - s.length / 64) - s.length / 64 = (s.length + 72) / 64 - s.length / 64 by omega]
  rfl
end Go.Proofs.YtjajoiahgfafgaaGreatDoor.Plain
end

/- hash.Sum: the strong fingerprint of a text. -/
section
namespace Go.Proofs.YtjajoiahgfafgaaGreatDoor
open Go.RowKit Plain

/-- The worlds of hash.Sum: block B the eight words. -/
structure Sm (w wr : World) (v : S8) : Prop where
  b0 : wr.heap[w.heap.size]? = some (.cells (cells8 v) 109 (0, 0))
  below : Below w.heap.size w wr

theorem Sm.facts {w wr : World} {v : S8} (hr : Sm w wr v) :
    wr.cell? ⟨w.heap.size, 0, none⟩ = some (.int .u32 (V v.a)) ∧ wr.cell? ⟨w.heap.size, 1, none⟩ = some (.int .u32 (V v.b)) ∧
    wr.cell? ⟨w.heap.size, 2, none⟩ = some (.int .u32 (V v.c)) ∧ wr.cell? ⟨w.heap.size, 3, none⟩ = some (.int .u32 (V v.d)) ∧
    wr.cell? ⟨w.heap.size, 4, none⟩ = some (.int .u32 (V v.e)) ∧ wr.cell? ⟨w.heap.size, 5, none⟩ = some (.int .u32 (V v.f)) ∧
    wr.cell? ⟨w.heap.size, 6, none⟩ = some (.int .u32 (V v.g)) ∧ wr.cell? ⟨w.heap.size, 7, none⟩ = some (.int .u32 (V v.h)) := by
  refine ⟨?_, ?_, ?_, ?_, ?_, ?_, ?_, ?_⟩ <;> (rw [cell_of_row wr (w.heap.size) _ _ 109 (0, 0) hr.b0]; rfl)
theorem Sm.drew {w wr : World} {v : S8} (hr : Sm w wr v) : Sm w wr.drew v := ⟨hr.b0, hr.below.drew⟩
theorem Sm.keep {w wr w' : World} {v : S8} (hr : Sm w wr v) (hb : Below wr.heap.size wr w') : Sm w w' v :=
  ⟨(hb.block _ (Array.getElem?_eq_some_iff.1 hr.b0).1).trans hr.b0, hr.below.trans (hb.mono hr.below.size)⟩
theorem Sm.put {w wr w' : World} {v : S8} (hr : Sm w wr v) (hg : wr.grownBy w' (some w.heap.size)) (u : S8) (hb : w'.heap[w.heap.size]? = some (.cells (cells8 u) 109 (0, 0))) : Sm w w' u :=
  ⟨hb, below_gb hr.below hr.below.size hg (Nat.le_refl _)⟩
theorem repeat_one (c : Nat) : Lib.repeatL [0] c = List.replicate c (0 : UInt8) := by
  induction c with
  | zero => rfl
  | succ c ih => rw [List.replicate_succ, ← ih]; rfl
theorem Sm.set {w wr : World} {v : S8} (hr : Sm w wr v) {g : Nat} (hg : w.heap.size < g) (k : Nat) (x : Value) : Sm w (wr.setCell ⟨g, k, none⟩ x) v :=
  ⟨(heap_set_ne' (by omega) k x).trans hr.b0, hr.below.setCell (p := ⟨g, k, none⟩) (by show w.heap.size ≤ g; omega) x⟩
theorem conv_back' {P : Program} (w : World) (src dst e t : TypeId) (hs : P.underlying src = some (.slice e)) (he : P.underlying e = some (.int .u8)) (hd : P.underlying dst = some .string) (l : List UInt8) (b n cap : Nat) (hn : n = l.length) (C : Array Value) (m : Nat × Nat)
    (hb : w.heap[b]? = some (.cells C t m)) (hC : ∀ j (h : j < l.length), C[j]? = some (.int .u8 (l[j].toNat : Int))) :
    (convert src dst (.slice (some ⟨b, 0, none⟩) n cap)).run P w = .ok (.string ⟨l.toArray⟩) w := by
  subst hn
  exact run_convert_bytes_back w src dst e ⟨b, 0, none⟩ cap l hs he hd (fun j hj => by
    rw [show (⟨b, 0, none⟩ : Addr).add j = ⟨b, j, none⟩ by unfold Addr.add; split <;> simp_all, cell_of_row _ _ _ C t m hb]
    exact hC j hj)
theorem lt_of_heap' {w : World} {b : Nat} {o : Obj} (h : w.heap[b]? = some o) : b < w.heap.size := (Array.getElem?_eq_some_iff.1 h).1
theorem out8_get (v : S8) (i j : Nat) (hi : i < 8) (hj : j < 4) : (out8 v).getD (4 * i + j) 0 = (bytes4 (at8 v i)).getD j 0 := by
  match i, hi, j, hj with
  | 0, _, 0, _ => rfl
  | 0, _, 1, _ => rfl
  | 0, _, 2, _ => rfl
  | 0, _, 3, _ => rfl
  | 1, _, 0, _ => rfl
  | 1, _, 1, _ => rfl
  | 1, _, 2, _ => rfl
  | 1, _, 3, _ => rfl
  | 2, _, 0, _ => rfl
  | 2, _, 1, _ => rfl
  | 2, _, 2, _ => rfl
  | 2, _, 3, _ => rfl
  | 3, _, 0, _ => rfl
  | 3, _, 1, _ => rfl
  | 3, _, 2, _ => rfl
  | 3, _, 3, _ => rfl
  | 4, _, 0, _ => rfl
  | 4, _, 1, _ => rfl
  | 4, _, 2, _ => rfl
  | 4, _, 3, _ => rfl
  | 5, _, 0, _ => rfl
  | 5, _, 1, _ => rfl
  | 5, _, 2, _ => rfl
  | 5, _, 3, _ => rfl
  | 6, _, 0, _ => rfl
  | 6, _, 1, _ => rfl
  | 6, _, 2, _ => rfl
  | 6, _, 3, _ => rfl
  | 7, _, 0, _ => rfl
  | 7, _, 1, _ => rfl
  | 7, _, 2, _ => rfl
  | 7, _, 3, _ => rfl
  | i + 8, h, _, _ => omega
  | i, _, j + 4, h => omega
theorem bytes4_get (x : UInt32) (j : Nat) (hj : j < 4) : (V x / 2 ^ (24 - 8 * j)) % 256 = (((bytes4 x).getD j 0).toNat : Int) := by
  unfold V
  match j, hj with
  | 0, _ => show ((x.toNat : Int) / 2 ^ 24) % 256 = ((UInt8.ofNat (x.toNat / 16777216)).toNat : Int); rw [UInt8.toNat_ofNat']; omega
  | 1, _ => show ((x.toNat : Int) / 2 ^ 16) % 256 = ((UInt8.ofNat (x.toNat / 65536)).toNat : Int); rw [UInt8.toNat_ofNat']; omega
  | 2, _ => show ((x.toNat : Int) / 2 ^ 8) % 256 = ((UInt8.ofNat (x.toNat / 256)).toNat : Int); rw [UInt8.toNat_ofNat']; omega
  | 3, _ => show ((x.toNat : Int) / 2 ^ 0) % 256 = ((UInt8.ofNat x.toNat).toNat : Int); rw [UInt8.toNat_ofNat']; omega
  | j + 4, h => omega
theorem out_go (v : S8) (i j : Nat) (hi : i < 8) (hj : j < 4) : (V (at8 v i) / 2 ^ (24 - 8 * j)) % 256 = (((out8 v).getD (4 * i + j) 0).toNat : Int) := by
  rw [out8_get v i j hi hj, bytes4_get _ j hj]
set_option maxRecDepth 100000 in
theorem index8 (v : S8) (i : Nat) (hi : i < 8) (w : World) : (Instr.index 109 (.agg (cells8 v)) (.int .i64 i)).run Tryz.prog w = .ok (.int .u32 (V (at8 v i))) w := by
  have h : i = 0 ∨ i = 1 ∨ i = 2 ∨ i = 3 ∨ i = 4 ∨ i = 5 ∨ i = 6 ∨ i = 7 := by omega
  rcases h with rfl | rfl | rfl | rfl | rfl | rfl | rfl | rfl <;> first | rfl | (show _ = _; kernel_rfl) | simp [Instr.index, cells8, at8, go_sem]
def strLenS : Value → Nat | .string b => b.size | _ => 0

set_option maxRecDepth 100000 in
set_option maxHeartbeats 2000000 in
theorem Sum_any (s : List UInt8) (w : World) (hs : s.length ≤ 1152921504606846975) :
    Calls Tryz.prog 47 #[.string ⟨s.toArray⟩] w (Ret w (.string ⟨(sha s).toArray⟩)) := by
  go_enter Tryz.func47, Tryz.ntmps47
  go_wp2_with (fail)
  go_loopw [5] (fun t5 wr => ∃ k : Nat, 64 * k ≤ s.length ∧ t5 = .string ⟨(s.drop (64 * k)).toArray⟩ ∧ Hid (Sm w wr (runB k H0 s))) (fun t5 _ => strLenS t5)
  case atStart => exact ⟨0, by omega, rfl, Lib.hid ⟨heap_alloc_new w _, (Below.refl _ _).alloc (Nat.le_refl _) _⟩⟩
  case round =>
    obtain ⟨k, hk, rfl, HS⟩ := hrel
    have hl : (s.drop (64 * k)).length = s.length - 64 * k := by simp
    have hl0 : (s.drop (64 * k)).length ≤ s.length := by omega
    by_cases hlt : 64 ≤ s.length - 64 * k
    · have hstep : runB (k + 1) H0 s = round (runB k H0 s) ((s.drop (64 * k)).take 64) := by rw [runB_add]; rfl
      have hdrop : (s.drop (64 * k)).drop 64 = s.drop (64 * (k + 1)) := by rw [List.drop_drop]; congr 1
      have hlr : 64 ≤ (s.drop (64 * k)).length := by omega
      generalize s.drop (64 * k) = r at *
      generalize hv : runB k H0 s = v at *
      have HST := Lib.hid hstep
      have HDR := Lib.hid hdrop
      clear hstep hdrop hv hl
      obtain ⟨c0, c1, c2, c3, c4, c5, c6, c7⟩ := HS.out.facts
      have q1 : (64 : Int) ≤ r.length := by omega
      have q2 : (r.length : Int) ≤ 9223372036854775807 := by omega
      go_wp2_with (fail)
      go_still_tail 3, (by kernel_rfl)
      change wpList _ _ _ _ _ wr.drew
      have HS2 := Lib.hid HS.out.drew
      clear c0 c1 c2 c3 c4 c5 c6 c7 HS
      generalize wr.drew = w2 at HS2 ⊢
      go_wp2_with (fail)
      refine (round_any v (r.take 64) _ (by simp; omega)).mono ?_
      rintro e w3 ⟨rfl, hb3⟩
      have HS3 := Lib.hid (HS2.out.keep hb3)
      have HB3 := Lib.hid HS3.out.b0
      clear hb3 HS2
      go_wp2_with (refine wpList_store_row rfl 109 _ _ rfl w.heap.size ?c1 ?C1 109 ?hx1 ?hy1 ?hg1 ?hC1 ?hi1 ?h11 ?_)
      case c1 => exact cells8 (round v (r.take 64))
      case C1 => exact cells8 v
      case hx1 => rfl
      case hy1 => rfl
      case hg1 => exact HB3.out
      case hC1 => exact (cells8_size _).trans (cells8_size _).symm
      case hi1 => rw [cells8_size]; exact info8
      case h11 => exact Array.all_eq_true_iff_forall_mem.2 (fun x hx => by obtain ⟨i, hi, rfl⟩ := Array.mem_iff_getElem.1 hx; exact oneCell8 _ i hi)
      intro w5 hg5 hs5 hb5
      have HS5 := Lib.hid (HS3.out.put hg5 _ hb5)
      clear hg5 hs5 hb5 HB3 HS3
      go_wp2_with (fail)
      go_roundw
      case rel => exact ⟨k + 1, by omega, by rw [HDR.out], by rw [HST.out]; exact HS5⟩
      case measure => simp [strLenS, ByteArray.size]; omega
    · have hr : (s.drop (64 * k)).length = s.length % 64 := by omega
      have hK : k = s.length / 64 := by omega
      have HD := Lib.hid (List.take_append_drop (64 * k) s)
      generalize hrr : s.drop (64 * k) = r at *
      have e1 : (119 - (r.length : Int)) % 64 = ((noughts s.length : Nat) : Int) := by unfold noughts; omega
      have hn : noughts s.length < 64 := by unfold noughts; omega
      generalize hnn : noughts s.length = c at *
      have HNN := Lib.hid hnn
      have HR := Lib.hid hr
      have HK := Lib.hid hK
      have HRR := Lib.hid hrr
      have hr64 : r.length < 64 := by omega
      clear hnn hr hK hrr hl hl0
      go_wp2_with (fail)
      have hrep := Tryz.strings_Repeat ⟨#[0]⟩ c wr (by omega) (by show 1 * c ≤ _; omega)
      rw [show Lib.repeatL (⟨#[0]⟩ : ByteArray).data.toList c = List.replicate c 0 from repeat_one c] at hrep
      have hz0 : (List.replicate c (0 : UInt8)).length = c := by simp
      generalize hz : List.replicate c (0 : UInt8) = z at *
      have HZ := Lib.hid hz
      have HZ0 := Lib.hid hz0
      have hz64 : z.length < 64 := by omega
      clear hz hz0
      refine hrep.mono ?_
      rintro e w2 ⟨rfl, hb2⟩
      have HS2 := Lib.hid (HS.out.keep hb2)
      have HG0 := Lib.hid (lt_of_heap' HS2.out.b0)
      clear hrep hb2 HS
      go_wp2_with (fail)
      go_loopw [7, 35] (fun _ t35 wr => ∃ (i : Nat) (C : Array Value), i ≤ 8 ∧ t35 = .int .i64 i ∧ Hid (C.size = 8) ∧ Hid (Sm w wr (runB k H0 s)) ∧ Hid (wr.heap[w2.heap.size]? = some (.cells C 113 (0, 0))) ∧ Hid (∀ j, j < i → C[j]? = some (.int .u8 (((size8 s.length).getD j 0).toNat : Int)))) (fun _ t35 _ => 8 - (intOf t35).toNat)
      case atStart => exact ⟨0, _, by omega, rfl, Lib.hid rfl, Lib.hid (HS2.out.keep ((Below.refl _ _).alloc (Nat.le_refl _) _)), Lib.hid (heap_alloc_new w2 _), Lib.hid (fun j hj => by omega)⟩
      case round =>
        clear HS2
        obtain ⟨i, C, hi, rfl, HC, HS, HB, HA⟩ := hrel
        by_cases hlt : i < 8
        · have f0 : wr.frozen? ⟨w2.heap.size, i, none⟩ = false := frozen_of_row wr _ i C 113 HB.out
          obtain ⟨v0, a0⟩ : ∃ v0, wr.cell? ⟨w2.heap.size, i, none⟩ = some v0 := by
            have hC := HC.out
            exact ⟨C[i]'(by omega), by rw [cell_of_row wr _ i C 113 (0, 0) HB.out]; exact Array.getElem?_eq_getElem (by omega)⟩
          have hi8 : (i : Int) < 8 := by omega
          have b1 : 0 ≤ 56 - 8 * (i : Int) := by omega
          have b2 : 56 - 8 * (i : Int) < 64 := by omega
          have HG := Lib.hid (size8_go s.length i hlt)
          go_wp2_with (fail)
          refine ⟨⟨i + 1, _, by omega, by go_num, Lib.hid ?_, Lib.hid (HS.out.set HG0.out i _), Lib.hid (heap_set HB.out i _), Lib.hid (set_get (by have := HC.out; omega) ?_ HA.out)⟩, by simp [intOf]; omega⟩
          · simpa using HC.out
          · rw [HG.out]
        · have hcv := conv_back' wr 63 9 5 113 Tryz.underlying63 Tryz.underlying5 Tryz.underlying9 (size8 s.length) w2.heap.size 8 8 rfl C (0, 0) HB.out
            (fun j hj => by
              have hj8 : j < 8 := by rw [size8_length] at hj; exact hj
              rw [HA.out j (by omega), List.getD_eq_getElem?_getD, List.getElem?_eq_getElem hj]; rfl)
          have h8 := size8_length s.length
          generalize hsz : size8 s.length = z8 at *
          have HSZ := Lib.hid hsz
          have H8 := Lib.hid h8
          have h8b : z8.length ≤ 8 := by omega
          clear hsz h8 HA HB HC
          go_wp2_with (fail)
          obtain ⟨m, hq, hsha⟩ := sha_tail s
          rw [← HK.out, HRR.out, HNN.out, HZ.out, HSZ.out] at hq hsha
          have HSHA := Lib.hid hsha
          have hqb : (r ++ 128 :: (z ++ z8)).length ≤ 200 := by simp; omega
          clear hsha
          generalize r ++ 128 :: (z ++ z8) = q at *
          generalize runB k H0 s = v1 at *
          have HQ := Lib.hid hq
          have hm : 64 * m ≤ q.length := by omega
          have hm2 : q.length ≤ 64 * m := by omega
          clear hq
          go_loopw [5] (fun t5 wr => ∃ j : Nat, j ≤ m ∧ t5 = .string ⟨(q.drop (64 * j)).toArray⟩ ∧ Hid (Sm w wr (runB j v1 q))) (fun t5 _ => strLenS t5)
          case atStart => exact ⟨0, by omega, rfl, HS⟩
          case round =>
            clear HS
            obtain ⟨j, hj, rfl, HS⟩ := hrel
            have hl : (q.drop (64 * j)).length = q.length - 64 * j := by simp
            by_cases hlt : j < m
            · have hstep : runB (j + 1) v1 q = round (runB j v1 q) ((q.drop (64 * j)).take 64) := by rw [runB_add]; rfl
              have hdrop : (q.drop (64 * j)).drop 64 = q.drop (64 * (j + 1)) := by rw [List.drop_drop]; congr 1
              have hlr : 64 ≤ (q.drop (64 * j)).length := by omega
              have hl0 : (q.drop (64 * j)).length ≤ 200 := by omega
              generalize q.drop (64 * j) = r2 at *
              generalize hv : runB j v1 q = v at *
              have HST := Lib.hid hstep
              have HDR := Lib.hid hdrop
              have hne : (!r2.isEmpty) = true := by cases r2 with | nil => simp at hlr | cons => rfl
              clear hstep hdrop hv hl
              obtain ⟨c0, c1, c2, c3, c4, c5, c6, c7⟩ := HS.out.facts
              have q1 : (64 : Int) ≤ r2.length := by omega
              have q2 : (r2.length : Int) ≤ 9223372036854775807 := by omega
              go_wp2_with (fail)
              go_still_tail 3, (by kernel_rfl)
              change wpList _ _ _ _ _ wr.drew
              have HS2 := Lib.hid HS.out.drew
              clear c0 c1 c2 c3 c4 c5 c6 c7 HS
              generalize wr.drew = w3 at HS2 ⊢
              go_wp2_with (fail)
              refine (round_any v (r2.take 64) _ (by simp; omega)).mono ?_
              rintro e w4 ⟨rfl, hb4⟩
              have HS3 := Lib.hid (HS2.out.keep hb4)
              have HB3 := Lib.hid HS3.out.b0
              clear hb4 HS2
              go_wp2_with (refine wpList_store_row rfl 109 _ _ rfl w.heap.size ?d1 ?D1 109 ?dx1 ?dy1 ?dg1 ?dC1 ?di1 ?d11 ?_)
              case d1 => exact cells8 (round v (r2.take 64))
              case D1 => exact cells8 v
              case dx1 => rfl
              case dy1 => rfl
              case dg1 => exact HB3.out
              case dC1 => exact (cells8_size _).trans (cells8_size _).symm
              case di1 => rw [cells8_size]; exact info8
              case d11 => exact Array.all_eq_true_iff_forall_mem.2 (fun x hx => by obtain ⟨i, hi, rfl⟩ := Array.mem_iff_getElem.1 hx; exact oneCell8 _ i hi)
              intro w5 hg5 hs5 hb5
              have HS5 := Lib.hid (HS3.out.put hg5 _ hb5)
              clear hg5 hs5 hb5 HB3 HS3
              go_wp2_with (fail)
              go_roundw
              case rel => exact ⟨j + 1, by omega, by rw [HDR.out], by rw [HST.out]; exact HS5⟩
              case measure => simp [strLenS, ByteArray.size]; omega
            · have hjm : j = m := by omega
              have hnil : q.drop (64 * j) = [] := List.eq_nil_of_length_eq_zero (by omega)
              rw [hnil]
              have HSM : Hid (Sm w wr (runB m v1 q)) := hjm ▸ HS
              clear hl hnil hjm HS
              generalize runB m v1 q = v2 at *
              have HB0 := Lib.hid HSM.out.b0
              have hbl := HSM.out.below
              have HBL := Lib.hid (hbl.alloc hbl.size (.cells (Array.replicate 32 (.int .u8 0)) 114))
              have hb1 := heap_alloc_new wr (.cells (Array.replicate 32 (.int .u8 0)) 114)
              have hge := hbl.size
              obtain ⟨g2, hg2⟩ : ∃ g2, wr.heap.size = g2 := ⟨_, rfl⟩
              rw [hg2] at hb1 hge
              have HB1 := Lib.hid hb1
              have HGE := Lib.hid hge
              clear hbl HSM hb1 hge
              go_wp2_with (refine wpList_load_row rfl 109 _ rfl w.heap.size rfl 109 _ (0, 0) _ (heap_old' HB0.out) Tryz.underlying109 rfl (by rw [cells8_size]; exact info8) ?_)
              clear hg2
              go_loopw [9, 10, 11, 60] (fun _ _ _ t60 W => ∃ (i : Nat) (C : Array Value), i ≤ 8 ∧ t60 = .int .i64 i ∧ Hid (C.size = 32) ∧ Hid (Below w.heap.size w W) ∧ Hid (W.heap[g2]? = some (.cells C 114 (0, 0))) ∧ Hid (∀ j, j < 4 * i → C[j]? = some (.int .u8 (((out8 v2).getD j 0).toNat : Int)))) (fun _ _ _ t60 _ => 8 - (intOf t60).toNat)
              case atStart => exact ⟨0, _, by omega, rfl, Lib.hid (by simp), HBL, HB1, Lib.hid (fun j hj => by omega)⟩
              case round =>
                clear HBL HB1
                obtain ⟨i2, C2, hi2, rfl, HC, HBe, HB, HA⟩ := hrel
                by_cases hlt : i2 < 8
                · have hix := index8 v2 i2 hlt
                  have hi28 : (i2 : Int) < 8 := by omega
                  go_wp2_with (fail)
                  clear hix
                  go_loopw [11, 64] (fun _ t64 W => ∃ (j : Nat) (C : Array Value), j ≤ 4 ∧ t64 = .int .i64 j ∧ Hid (C.size = 32) ∧ Hid (Below w.heap.size w W) ∧ Hid (W.heap[g2]? = some (.cells C 114 (0, 0))) ∧ Hid (∀ a, a < 4 * i2 + j → C[a]? = some (.int .u8 (((out8 v2).getD a 0).toNat : Int)))) (fun _ t64 _ => 4 - (intOf t64).toNat)
                  case atStart => exact ⟨0, C2, by omega, rfl, HC, HBe, HB, HA⟩
                  case round =>
                    clear HC HBe HB HA
                    obtain ⟨j2, C3, hj2, rfl, HC, HBe, HB, HA⟩ := hrel
                    by_cases hlt2 : j2 < 4
                    · have f0 : wr.frozen? ⟨g2, 4 * i2 + j2, none⟩ = false := frozen_of_row wr _ _ C3 114 HB.out
                      obtain ⟨v0, a0⟩ : ∃ v0, wr.cell? ⟨g2, 4 * i2 + j2, none⟩ = some v0 := by
                        have hC := HC.out
                        exact ⟨C3[4 * i2 + j2]'(by omega), by rw [cell_of_row wr _ _ C3 114 (0, 0) HB.out]; exact Array.getElem?_eq_getElem (by omega)⟩
                      have b1 : 0 ≤ 24 - 8 * (j2 : Int) := by omega
                      have b2 : 24 - 8 * (j2 : Int) < 32 := by omega
                      have b3 : 4 * (i2 : Int) + (j2 : Int) < 32 := by omega
                      have HG := Lib.hid (out_go v2 i2 j2 hlt hlt2)
                      go_wp2_with (fail)
                      refine ⟨⟨j2 + 1, _, by omega, by go_num, Lib.hid ?_, Lib.hid (HBe.out.setCell (p := ⟨g2, 4 * i2 + j2, none⟩) HGE.out _), Lib.hid (heap_set HB.out _ _), Lib.hid (set_get (k := 4 * i2 + j2) (C := C3) (P := fun a => .int .u8 (((out8 v2).getD a 0).toNat : Int)) (by have := HC.out; omega) ?_ HA.out)⟩, by simp [intOf]; omega⟩
                      · simpa using HC.out
                      · rw [HG.out]
                    · go_wp2_with (fail)
                      exact ⟨⟨i2 + 1, C3, by omega, by go_num, HC, HBe, HB, Lib.hid (fun a ha => HA.out a (by omega))⟩, by simp [intOf]; omega⟩
                · have hcv := conv_back' wr 63 9 5 114 Tryz.underlying63 Tryz.underlying5 Tryz.underlying9 (out8 v2) g2 32 32 rfl C2 (0, 0) HB.out
                    (fun j hj => by
                      have hj8 : j < 32 := by rw [out8_length] at hj; exact hj
                      rw [HA.out j (by omega), List.getD_eq_getElem?_getD, List.getElem?_eq_getElem hj]; rfl)
                  rw [← HSHA.out] at hcv
                  clear HA HB HC
                  go_wp2_with (fail)
                  go_ret
                  exact ⟨rfl, HBe.out⟩
end Go.Proofs.YtjajoiahgfafgaaGreatDoor
end

/- strings.Builder's WriteByte at a builder that the call itself has made. -/
section
namespace Go.Proofs.YtjajoiahgfafgaaGreatDoor
open Go.RowKit

set_option maxHeartbeats 400000 in
theorem WriteByte_any (B b : Nat) (bs : List Value) (c : Int) (w : World) (h : Lib.IsBuilderF 65 5 B b bs w) (hlen : bs.length + 1 ≤ 140737488355328) (hBw : B ≤ w.heap.size) :
    Calls Tryz.prog 76 #[.pointer (some ⟨b, 0, none⟩), .int .u8 c] w fun e w' => e = .returned .nilIface ∧
      (Lib.BuilderAtF 65 5 B b (.pointer (some ⟨b, 0, none⟩)) (bs ++ [.int .u8 c]) w' ∧ Below B w w' ∧ Lib.OthersKept 5 (some b) w w') := by
  obtain ⟨i0, hi, hz0, hz1, hz2⟩ := info_parts info_byte
  go_enter Tryz.func76, Tryz.ntmps76
  go_wp2_with (fail)
  refine (copyCheck_any B b bs _ h).mono ?_
  rintro e w1 ⟨rfl, h1, hb1, hk1⟩
  obtain ⟨hB, v, hbk, hown, hne⟩ := h1
  have c0 : w1.cell? ⟨b, 0, none⟩ = some (.pointer (some ⟨b, 0, none⟩)) := by rw [Lib.cell_of_heap hbk]; rfl
  have c1 : w1.cell? ⟨b, 1, none⟩ = some v := by rw [Lib.cell_of_heap hbk]; rfl
  go_wp2_with (at_builtin; refine wpList_append_ownF _ rfl _ _ 63 rfl B 5 i0 (.int .u8 0) 1 1 Tryz.underlying63 hi hz0 hz1 hz2 rfl (by decide) _ _ _ rfl (hown.alloc _) ⟨w1.heap.size, 0, none⟩ 1 1 [.int .u8 c] rfl rfl ?c1 ?c2 ?c3 ?c4 ?c5 ?_)
  case c1 =>
    intro j u hj
    match j, hj with
    | 0, hj => simp at hj; subst hj; simp [Addr.add]
  case c2 => intro u hu; simp at hu; subst hu; rfl
  case c3 => unfold maxLen; omega
  case c4 => omega
  case c5 => have := hb1.size; simp; omega
  intro v' w2 hown' hgrow _
  have hlt : b < w1.heap.size := by
    rcases Nat.lt_or_ge b w1.heap.size with h' | h'
    · exact h'
    · simp [Array.getElem?_eq_none h'] at hbk
  have hb2 : w2.heap[b]? = some (.cells #[.pointer (some ⟨b, 0, none⟩), v] 65 (0, 0)) := by
    rw [hgrow.block b (by simp; omega) (fun e => hne e.symm), Lib.alloc_old w1 _ b hlt]
    exact hbk
  have d0 : w2.cell? ⟨b, 0, none⟩ = some (.pointer (some ⟨b, 0, none⟩)) := by rw [Lib.cell_of_heap hb2]; rfl
  have d1 : w2.cell? ⟨b, 1, none⟩ = some v := by rw [Lib.cell_of_heap hb2]; rfl
  have f1 : w2.frozen? ⟨b, 1, none⟩ = false := Lib.frozen_of_heap hb2 1
  obtain ⟨ao, n', cap, rfl⟩ : ∃ ao n' cap, v' = .slice ao n' cap := by
    rcases hown'.2 with ⟨hv, _⟩ | ⟨g, cap, cur, fz, hv, _⟩
    · exact ⟨_, _, _, hv⟩
    · exact ⟨_, _, _, hv⟩
  go_wp2
  go_ret
  refine ⟨rfl, ?_, ?_, ((hk1.alloc _).grown hgrow (Lib.ownsRowF_kind (hown.alloc _))).setCell ⟨b, 1, none⟩ rfl _⟩
  · exact Lib.BuilderAtF.put (T := 65) (e := 5) hB hb2 (bs' := bs ++ [.int .u8 c]) (by simpa using hown') (by decide)
  · exact ((hb1.alloc (by have := hb1.size; omega) _).grown hgrow (by have := hb1.size; simp; omega) (fun k hk => (hown.lt k hk).1)).setCell (p := ⟨b, 1, none⟩) hB _

/-- The same, by lists of bytes. -/
theorem WriteByte_list (B b : Nat) (l : List UInt8) (c : UInt8) (w : World) (h : Lib.IsBuilderF 65 5 B b (Lib.byteCells l) w) (hlen : l.length + 1 ≤ 140737488355328) (hBw : B ≤ w.heap.size) :
    Calls Tryz.prog 76 #[.pointer (some ⟨b, 0, none⟩), .int .u8 (c.toNat : Int)] w fun e w' => e = .returned .nilIface ∧
      (Lib.IsBuilderF 65 5 B b (Lib.byteCells (l ++ [c])) w' ∧ Below B w w' ∧ Lib.OthersKept 5 (some b) w w') :=
  (WriteByte_any B b _ (c.toNat : Int) w h (by simpa [Lib.byteCells_length] using hlen) hBw).mono fun e w' ⟨he, h1, h2, h3⟩ =>
    ⟨he, .inr (by rw [Lib.byteCells_append]; exact h1), h2, h3⟩
end Go.Proofs.YtjajoiahgfafgaaGreatDoor
end

/- hash.Hex, hawserref04.Hex: two digits a byte. -/
section
namespace Go.Proofs.YtjajoiahgfafgaaGreatDoor
open Go.RowKit Plain

set_option maxRecDepth 100000 in
set_option maxHeartbeats 400000 in
theorem Hex_any (s : List UInt8) (w : World) (hs : s.length ≤ 70368744177664) :
    Calls Tryz.prog 46 #[.string ⟨s.toArray⟩] w (Ret w (.string ⟨(hex s).toArray⟩)) := by
  go_enter Tryz.func46, Tryz.ntmps46
  go_wp2_with (fail)
  go_loopw [4, 7] (fun _ t7 wr => ∃ k : Nat, k ≤ s.length ∧ t7 = .int .i64 k ∧ Lib.IsBuilderF 65 5 w.heap.size w.heap.size (Lib.byteCells (hex (s.take k))) wr ∧ Below w.heap.size w wr) (fun _ t7 _ => s.length - (intOf t7).toNat)
  case atStart => exact ⟨0, by omega, rfl, fresh_builder w, (Below.refl _ _).alloc (Nat.le_refl _) _⟩
  case round =>
    obtain ⟨k, hk, rfl, hbl, hb⟩ := hrel
    by_cases hlt : k < s.length
    · have hsn := hex_snoc s k hlt
      have hl := hex_length (s.take k)
      rw [List.length_take, Nat.min_eq_left (by omega)] at hl
      generalize hc : s[k] = c at *
      obtain ⟨x, y, hx, hy, x16, y16, ex, ey, _, hB⟩ := hex_go c
      rw [hB] at hsn
      generalize hd1 : digs[x] = d1 at *
      generalize hd2 : digs[y] = d2 at *
      generalize hex (s.take k) = l at *
      unfold digs at hd1 hd2
      have HS := Lib.hid hsn
      have HL := Lib.hid hl
      have hl2 : l.length ≤ 2 * k := by omega
      clear hsn hB hl
      go_wp2_with (fail)
      refine (WriteByte_list _ _ l d1 _ hbl (by omega) hb.size).mono ?_
      rintro e w1 ⟨rfl, hbl1, hb1, _⟩
      go_wp2_with (fail)
      refine (WriteByte_list _ _ (l ++ [d1]) d2 _ hbl1 (by simp; omega) (hb.trans hb1).size).mono ?_
      rintro e w2 ⟨rfl, hbl2, hb2, _⟩
      go_wp2_with (fail)
      go_roundw
      case rel => exact ⟨k + 1, by omega, by go_num, by rw [HS.out]; simpa using hbl2, (hb.trans hb1).trans hb2⟩
      case measure => simp [intOf]; omega
    · obtain rfl : k = s.length := by omega
      go_wp2_with (fail)
      refine (Tryz.Builder_String_any_f _ _ _ _ hbl hb.size).mono ?_
      rintro e w1 ⟨rfl, _, hb1⟩
      go_wp2_with (fail)
      go_ret
      exact ⟨rfl, hb.trans hb1⟩

/-- append onto a row of the call's own, as one step of a region that draws. -/
theorem step_append_own {P : Program} {ops : Array Oper} {o : Oper} {a : Act} {w : World} {K : Act → World → Prop} {Q : Exit → Act → World → Prop} {E : Prop} (hg : o.guard = none) (s x : Operand) (t : TypeId)
    (ho : o.op = .call { callee := .builtin .append, args := #[s, x], argTypes := #[t, t] })
    (base : Nat) (e : TypeId) (i : TypeInfo) (z : Value) (size bytes : Nat) (ht : P.underlying t = some (.slice e)) (hi : P.info? e = some i) (hz : i.zero = some z)
    (hsize : i.size = size) (hby : i.bytes = bytes) (hzs : z.cells.size = size) (hsz : 0 < size)
    (v : Value) (n : Nat) (xs : List Value) (hs : a.eval s = v) (hown : w.ownsRow base e size v n xs)
    (ad : Addr) (m c : Nat) (news : List Value) (hx : a.eval x = .slice (some ad) m c) (hl : news.length = m * size) (hnews : ∀ j u, news[j]? = some u → w.cell? (ad.add j) = some u) (h1 : ∀ u ∈ news, u.oneCell' = true)
    (h63 : n + m ≤ maxLen) (hbytes : (n + m) * bytes ≤ 140737488355328) (hbase : base ≤ w.heap.size)
    (h : ∀ v' w', w'.ownsRow base e size v' (n + m) (xs ++ news) → w.grownBy w' v.ownBlock → (v' = .slice none 0 0 ↔ v = .slice none 0 0 ∧ m = 0) → K (a.put o.dst v') w') :
    if Region.wanted o (yielded ops a.tmps) = true then Oper.wp P o a w K Q else E := by
  have hw : Region.wanted o (yielded ops a.tmps) = true := by simp [Region.wanted, hg]
  rw [if_pos hw]
  exact wp_append_own w s x t ho base e i z size bytes ht hi hz hsize hby hzs hsz v n xs hs hown ad m c news hx hl hnews h1 h63 hbytes hbase h

theorem laid_row (w : World) (xs : List Value) (e : TypeId) : ∀ j u, xs[j]? = some u → (w.alloc (.cells xs.toArray e)).cell? ((⟨w.heap.size, 0, none⟩ : Addr).add j) = some u := by
  intro j u hj
  rw [show (⟨w.heap.size, 0, none⟩ : Addr).add j = ⟨w.heap.size, j, none⟩ by unfold Addr.add; split <;> simp_all, cell_of_row _ _ _ xs.toArray e (0, 0) (heap_alloc_new w _)]
  simpa using hj
theorem own_drewN {w : World} {base : Nat} {e : TypeId} {size n : Nat} {v : Value} {xs : List Value} (h : w.ownsRow base e size v n xs) (k : Nat) : (w.drewN k).ownsRow base e size v n xs := h

set_option maxRecDepth 100000 in
set_option maxHeartbeats 400000 in
theorem Hex_ref (s : List UInt8) (w : World) (hs : s.length ≤ 70368744177664) :
    Calls Tryz.prog 85 #[.string ⟨s.toArray⟩] w (Ret w (.string ⟨(hex s).toArray⟩)) := by
  obtain ⟨i0, hi, hz0, hz1, hz2⟩ := info_parts info_byte
  go_enter Tryz.func85, Tryz.ntmps85
  go_wp2_with (fail)
  go_loopw [4, 5] (fun t4 t5 wr => ∃ k : Nat, k ≤ s.length ∧ t5 = .int .i64 k ∧ wr.ownsRow w.heap.size 5 1 t4 (hex (s.take k)).length (bytesV (hex (s.take k))) ∧ Below w.heap.size w wr) (fun _ t5 _ => s.length - (intOf t5).toNat)
  case atStart => exact ⟨0, by omega, rfl, ⟨rfl, .inl ⟨rfl, rfl⟩⟩, Below.refl _ _⟩
  case round =>
    obtain ⟨k, hk, rfl, hown, hb⟩ := hrel
    by_cases hlt : k < s.length
    · have hsn := hex_snoc s k hlt
      have hl := hex_length (s.take k)
      rw [List.length_take, Nat.min_eq_left (by omega)] at hl
      generalize hc : s[k] = c at *
      obtain ⟨x, y, hx, hy, x16, y16, ex, _, ey, hB⟩ := hex_go c
      rw [hB] at hsn
      generalize hd1 : digs[x] = d1 at *
      generalize hd2 : digs[y] = d2 at *
      generalize hex (s.take k) = l at *
      unfold digs at hd1 hd2
      have HS := Lib.hid hsn
      have HL := Lib.hid hl
      have hl2 : l.length ≤ 2 * k := by omega
      have px : (0 : Int) ≤ k := by omega
      have qx : (k : Int) < s.length := by omega
      have px1 : (0 : Int) ≤ x := by omega
      have qx1 : (x : Int) < 16 := by omega
      have py1 : (0 : Int) ≤ y := by omega
      have qy1 : (y : Int) < 16 := by omega
      have wx : IntKind.u8.wrap (x : Int) = x := IntWalk.u8_in _ (by omega)
      have wy : IntKind.u8.wrap (y : Int) = y := IntWalk.u8_in _ (by omega)
      have ty : (c.toNat : Int).tmod 16 = y := by rw [Int.tmod_eq_emod_of_nonneg (by omega)]; exact ey
      have tx : (c.toNat : Int).tdiv 16 = x := by rw [Int.tdiv_eq_ediv_of_nonneg (by omega)]; exact ex
      clear hsn hB hl
      go_wp2_with (fail)
      go_region_law (refine step_append_own rfl _ _ 63 rfl w.heap.size 5 i0 (.int .u8 0) 1 1 Tryz.underlying63 hi hz0 hz1 hz2 rfl (by decide) _ _ _ rfl ((own_drewN hown 1).alloc _) ⟨wr.heap.size, 0, none⟩ 2 2 [.int .u8 (d1.toNat : Int), .int .u8 (d2.toNat : Int)] rfl rfl (laid_row wr _ _) (by intro u hu; simp at hu; rcases hu with rfl | rfl <;> rfl) (by unfold maxLen; omega) (by omega) (by have := hb.size; simp; omega) ?_; intro v' w2 hown' hgrow _)
      clear wx wy ty tx
      all_goals
        have hb2 := ((hb.alloc hb.size (.cells #[.int .u8 (d1.toNat : Int), .int .u8 (d2.toNat : Int)] 5)).drew).grown hgrow (by have := hb.size; simp; omega) (fun k hk => (hown.lt k hk).1)
        go_wp2_with (fail)
        go_roundw
        case rel => exact ⟨k + 1, by omega, by go_num, by rw [HS.out]; simpa [bytesV] using hown', hb2⟩
        case measure => simp [intOf]; omega
    · obtain rfl : k = s.length := by omega
      go_wp2_with (fail)
      rw [conv_own (P := Tryz.prog) 63 9 5 Tryz.underlying63 Tryz.underlying5 Tryz.underlying9 hown]
      go_wp2_with (fail)
      go_ret
      exact ⟨rfl, hb⟩
end Go.Proofs.YtjajoiahgfafgaaGreatDoor
end

/- arch.Bare. -/
section
set_option linter.unusedVariables false
namespace Go.Proofs.YtjajoiahgfafgaaGreatDoor
open Go.RowKit Plain

theorem rows_readsA {α : Type} {enc : α → List Value} {m : Nat} (h0m : 0 < m) (hm : ∀ x, (enc x).length = m) {w : World} {A : Option Addr} {l : List α} (h : IsRows w m A (l.map enc)) : Reads w m A l.length (rowsE enc l) := by
  refine ⟨rowsE_length hm l, fun h0 => ?_⟩
  obtain ⟨ad, hA, -⟩ := h 0 (by simpa using h0)
  subst hA
  refine ⟨ad, rfl, fun j u hu => ?_⟩
  have hj : j < (rowsE enc l).length := (List.getElem?_eq_some_iff.1 hu).1
  rw [rowsE_length hm] at hj
  have hk : j / m < l.length := Nat.div_lt_of_lt_mul (by rw [Nat.mul_comm]; exact hj)
  have hi : j % m < m := Nat.mod_lt _ h0m
  have e : j = j / m * m + j % m := by have := Nat.div_add_mod j m; rw [Nat.mul_comm] at this; omega
  obtain ⟨ad', ha, hc⟩ := h (j / m) (by simpa using hk)
  injection ha with ha
  subst ha
  have e1 : (l.map enc)[j / m]'(by simpa using hk) = enc l[j / m] := by simp
  rw [e1] at hc
  have h2 := rowsE_get hm l (j / m) hk (j % m) hi
  rw [← e, hu] at h2
  have := hc (j % m) u h2.symm
  rwa [← e] at this
theorem empty_ownA (w : World) (t : TypeId) (size : Nat) : (w.alloc (.cells #[] t)).ownsRow w.heap.size t size (.slice (some ⟨w.heap.size, 0, none⟩) 0 0) 0 [] :=
  ⟨by simp, .inr ⟨w.heap.size, 0, #[], rfl, Nat.le_refl _, heap_alloc_new w _, Nat.le_refl _, by unfold maxLen; omega, by simp, by simp⟩⟩

set_option maxHeartbeats 1000000 in
set_option maxRecDepth 100000 in
theorem clone_any (t : List Nd) (A : Option Addr) (c : Nat) (w : World) (hR : IsRows w 4 A (t.map ndV)) (hc : t.length ≤ c) (hl : t.length ≤ 1048576) :
    Calls Tryz.prog 45 #[.slice A t.length c] w fun e w' => ∃ A' c', e = .returned (.slice A' t.length c') ∧ w'.ownsRow w.heap.size 41 4 (.slice A' t.length c') t.length (rowsE ndV t) ∧ Below w.heap.size w w' := by
  obtain ⟨it0, hi, hz0, hz1, hz2⟩ := info_parts info_nodeA
  cases A with
  | none =>
    have h0 : t = [] := by
      cases t with
      | nil => rfl
      | cons x r =>
        obtain ⟨ad, e, _⟩ := hR 0 (by simp)
        cases e
    subst h0
    have qN := fun (w : World) => Go.run_eql_slice_nil (P := Tryz.prog) w 23 41 none 0 c Tryz.underlying23
    go_enter Tryz.func45, Tryz.ntmps45
    go_wp2_with (fail)
    go_ret
    exact ⟨none, 0, rfl, World.ownsRow_nil _ _ _ _, Below.refl _ _⟩
  | some ad =>
    have HRD := Lib.hid (fun W (h : Below w.heap.size w W) => rows_readsA (by decide) ndV_length (hR.below h))
    have HI := Lib.hid hi
    clear hR hi
    have qN := fun (w : World) (n c : Nat) => Go.run_eql_slice_nil (P := Tryz.prog) w 23 41 (some ad) n c Tryz.underlying23
    go_enter Tryz.func45, Tryz.ntmps45
    go_wp2_with (at_builtin; refine wpList_append_slice rfl _ _ 23 rfl w.heap.size 41 it0 _ 4 48 Tryz.underlying23 HI.out hz0 hz1 hz2 rfl (by decide) (some ⟨w.heap.size, 0, none⟩) 0 0 [] rfl (empty_ownA w 41 4) (some ad) t.length c (rowsE ndV t) rfl (HRD.out _ ((Below.refl _ _).alloc (Nat.le_refl _) _)) (rowsE_oneCell ndV_oneCell t) ?c3 ?c4 ?c5 ?_)
    case c3 => unfold maxLen; omega
    case c4 => omega
    case c5 => simp
    intro A5 c5 w5 hown5 hg5
    have hb5 : Below w.heap.size w w5 := ((Below.refl _ _).alloc (Nat.le_refl _) _).grown hg5 (by simp) (fun k hk => by
      have hk' : w.heap.size = k := by injection hk
      omega)
    try simp only [Nat.zero_add, List.nil_append] at hown5
    have HO := Lib.hid hown5
    clear hown5 hg5 HRD
    go_wp2_with (fail)
    go_ret
    exact ⟨A5, c5, by first | rfl | simp, HO.out, hb5⟩

namespace Plain
def bareP (t : List Nd) : List Nd × Int := if treeOK t then (t.map bareOf, 0) else ([], 60)
def bared (t : List Nd) (i : Nat) : List Nd := (t.take i).map bareOf ++ t.drop i
theorem bared_length (t : List Nd) {i : Nat} (h : i ≤ t.length) : (bared t i).length = t.length := by unfold bared; simp; omega
theorem bared_zero (t : List Nd) : bared t 0 = t := by simp [bared]
theorem bared_all (t : List Nd) : bared t t.length = t.map bareOf := by simp [bared]
theorem bared_at {t : List Nd} {i : Nat} (h : i < t.length) : (bared t i)[i]'(by rw [bared_length t (by omega)]; exact h) = t[i] := by
  have hm : min i t.length = i := by omega
  unfold bared
  rw [List.getElem_append_right (by simp [hm])]
  simp [hm]
theorem bared_next {t : List Nd} {i : Nat} (h : i < t.length) : bared t (i + 1) = (bared t i).set i (bareOf t[i]) := by
  have hm : min i t.length = i := by omega
  unfold bared
  rw [List.take_succ_eq_append_getElem h, List.map_append, List.set_append_right _ _ (by simp [hm])]
  simp only [List.length_map, List.length_take, List.map_cons, List.map_nil, List.append_assoc, List.singleton_append]
  rw [show i - min i t.length = 0 by omega, List.drop_eq_getElem_cons h, List.set_cons_zero]
theorem set_same {l : List Nd} {i : Nat} (h : i < l.length) : l.set i l[i] = l := by simp
end Plain

/-- What Bare gives. -/
def BareOut (w : World) (r : List Nd × Int) (e : Ending) (w' : World) : Prop :=
  ∃ A c, e = .returned (.tuple #[.slice A r.1.length c, .int .i64 r.2]) ∧ r.1.length ≤ c ∧ IsRows w' 4 A (r.1.map ndV) ∧ Below w.heap.size w w'

set_option maxHeartbeats 2000000 in
set_option maxRecDepth 100000 in
theorem bare_any (t : List Nd) (A : Option Addr) (c : Nat) (m : Int) (w : World) (hL : Laid w m) (hR : IsRows w 4 A (t.map ndV)) (hc : t.length ≤ c) (hlen : t.length ≤ 9223372036854775807) (hp : ∀ n ∈ t, n.path.length ≤ 9223372036854775807 ∧ n.data.length ≤ 9223372036854775807) :
    Calls Tryz.prog 17 #[.slice A t.length c] w (BareOut w (bareP t)) := by
  have HT := Lib.hid (tcheck_any t A c m w hL hR hc hlen hp)
  cases hok : treeOK t with
  | false =>
    have HB := Lib.hid (show bareP t = ([], 60) by unfold bareP; rw [hok]; rfl)
    rw [HB.out]
    rw [hok] at HT
    have HT1 : Hid (Calls Tryz.prog 44 #[.slice A t.length c] w (Ret w (.int .i64 60))) := HT
    clear hok HT hR hL hp
    go_enter Tryz.func17, Tryz.ntmps17
    go_wp2_with (fail)
    refine HT1.out.mono ?_
    rintro e w1 ⟨rfl, hw1⟩
    go_wp2_with (fail)
    go_ret2
    exact ⟨none, 0, rfl, Nat.le_refl _, nil_rows _ _, hw1⟩
  | true =>
    have HB := Lib.hid (show bareP t = (t.map bareOf, 0) by unfold bareP; rw [hok]; rfl)
    rw [HB.out]
    rw [hok] at HT
    have HT1 : Hid (Calls Tryz.prog 44 #[.slice A t.length c] w (Ret w (.int .i64 0))) := HT
    obtain ⟨hl, htb⟩ := tree_bounds hok
    have HTB := Lib.hid htb
    have HCL := Lib.hid (fun W (h : Below w.heap.size w W) => clone_any t A c W (hR.below h) hc (by omega))
    clear hok HT hR hL hp htb
    go_enter Tryz.func17, Tryz.ntmps17
    go_wp2_with (fail)
    refine HT1.out.mono ?_
    rintro e w1 ⟨rfl, hw1⟩
    have HB1 := Lib.hid hw1
    clear hw1
    go_wp2_with (fail)
    refine (HCL.out _ HB1.out).mono ?_
    rintro e w2 ⟨A5, c5, rfl, hown, hw2⟩
    obtain ⟨A6, c6, e6, hc6, -, -⟩ := IsSlice.of_own hown
    injection e6 with e6 _ e7
    subst e6 e7
    have HB2 := Lib.hid (HB1.out.trans (hw2.mono HB1.out.size))
    have HO2 : Hid (w2.ownsRow w1.heap.size 41 4 (.slice A5 t.length c5) t.length (rowsE ndV (bared t 0))) := Lib.hid (by rw [bared_zero]; exact hown)
    have HLE := Lib.hid HB1.out.size
    clear hown hw2
    go_wp2_with (fail)
    go_loopw [13] (fun t13 W => ∃ i : Nat, i ≤ t.length ∧ t13 = .int .i64 i ∧ Hid (W.ownsRow w1.heap.size 41 4 (.slice A5 t.length c5) t.length (rowsE ndV (bared t i))) ∧ Hid (Below w.heap.size w W)) (fun t13 _ => t.length - (intOf t13).toNat)
    case atStart => exact ⟨0, by omega, rfl, HO2, HB2⟩
    case round =>
      clear HO2 HB2
      obtain ⟨i, hi, rfl, HO, HW⟩ := hrel
      have i0 : (0 : Int) ≤ i := by omega
      by_cases hlt : i < t.length
      · have i1 : (i : Int) < t.length := by omega
        have e1 : IntKind.i64.wrap ((i : Int) + 1) = (i : Int) + 1 := IntWalk.i64_in _ (by omega)
        have hbl := bared_length t (i := i) (by omega)
        have hIR := own_rowsA ndV_length HO.out hbl.symm
        obtain ⟨ad, rfl, c0, c1, c2, c3⟩ := node_cells hIR (i := i) (by rw [hbl]; exact hlt)
        have hgd : (bared t i).getD i default = t[i] := by rw [List.getD_eq_getElem?_getD, List.getElem?_eq_getElem (by rw [hbl]; exact hlt), Option.getD_some, bared_at hlt]
        rw [hgd] at c0 c1 c2 c3
        have HNX := Lib.hid (bared_next hlt)
        have HBA := Lib.hid (bared_at hlt)
        have hx := HTB.out _ (List.getElem_mem hlt)
        have HDL := Lib.hid hx.2.2.2
        obtain ⟨g, hg, hgb, hgl⟩ : ∃ g, ad = ⟨g, 0, none⟩ ∧ w1.heap.size ≤ g ∧ g < wr.heap.size := by
          obtain ⟨g, cap, e, h1, h2⟩ := HO.out.form (by omega)
          injection e with e _ _
          injection e with e
          exact ⟨g, e, h1, h2⟩
        have HG := Lib.hid hg
        have HGB := Lib.hid hgb
        clear hx hgd hIR hg hgb
        have HSUM := Lib.hid (fun W => Sum_any t[i].data W (by have := HDL.out; omega))
        have HHEX := Lib.hid (fun W => Hex_any (sha t[i].data) W (by rw [sha_length]; omega))
        have HBO := Lib.hid (show bareOf t[i] = if t[i].kind == 2 then t[i] else { t[i] with data := hex (sha t[i].data) } from rfl)
        have HGL := Lib.hid hgl
        obtain ⟨wn, hwn⟩ : ∃ wn, wr.alloc (.cells (ndV t[i]).toArray 41) = wn := ⟨_, rfl⟩
        have HWN := Lib.hid hwn
        have HNR := Lib.hid (show wn.heap[wr.heap.size]? = some (.cells (ndV t[i]).toArray 41 (0, 0)) by rw [← hwn]; exact heap_alloc_new _ _)
        have hbn := (show Below wr.heap.size wr wn by rw [← hwn]; exact (Below.refl _ _).alloc (Nat.le_refl _) _)
        have HBN := Lib.hid (HW.out.trans (hbn.mono HW.out.size))
        have HON := Lib.hid (HO.out.kept (row := none) ⟨hbn.os, hbn.tape, hbn.output, hbn.size, fun j hj _ => hbn.block j hj⟩ (.inr (by simp [Value.ownBlock])))
        generalize t[i] = nd at *
        unfold ndV at HWN HNR
        clear hwn hbn
        go_upto_region 7 with (fail)
        rw [HWN.out]
        have n1 := cell_of_row wn _ 1 _ _ _ HNR.out
        have n2 := cell_of_row wn _ 2 _ _ _ HNR.out
        by_cases hk : nd.kind = 2
        · have hk2 : (nd.kind != 2) = false := by simpa using hk
          have HOX : Hid (wn.ownsRow w1.heap.size 41 4 (.slice (some ad) t.length c5) t.length (rowsE ndV (bared t (i + 1)))) := Lib.hid (by
            rw [HNX.out, HBO.out, if_pos (by simpa using hk)]
            rw [← HBA.out, set_same]
            exact HON.out)
          clear HBA HNX HBO hk
          go_wp2_with (fail)
          go_roundw
          case rel => exact ⟨i + 1, by omega, by go_num, HOX, HBN⟩
          case measure => simp [intOf]; omega
        · have hk2 : (nd.kind != 2) = true := by simpa using hk
          have HK := Lib.hid hk
          clear hk
          go_wp2_with (fail)
          clear n1 n2
          refine (HSUM.out _).mono ?_
          rintro e wp ⟨rfl, hwp⟩
          have HBP := Lib.hid (HBN.out.trans (hwp.mono HBN.out.size))
          have HOP := Lib.hid (HON.out.kept (row := none) ⟨hwp.os, hwp.tape, hwp.output, hwp.size, fun j hj _ => hwp.block j hj⟩ (.inr (by simp [Value.ownBlock])))
          clear hwp
          go_wp2_with (fail)
          refine (HHEX.out _).mono ?_
          rintro e wq ⟨rfl, hwq⟩
          have HBQ := Lib.hid (HBP.out.trans (hwq.mono HBP.out.size))
          have HOQ := HOP.out.kept (row := none) ⟨hwq.os, hwq.tape, hwq.output, hwq.size, fun j hj _ => hwq.block j hj⟩ (.inr (by simp [Value.ownBlock]))
          have hcell := (show wq.cell? ⟨(ad.add (i * 4)).block, (ad.add (i * 4)).off + 2, none⟩ = some (.string ⟨nd.data.toArray⟩) by
            have h := own_rowsA ndV_length HOQ hbl.symm
            obtain ⟨ad', e', -, -, h2, -⟩ := node_cells h (i := i) (by rw [hbl]; exact hlt)
            injection e' with e'
            subst e'
            rw [List.getD_eq_getElem?_getD, List.getElem?_eq_getElem (by rw [hbl]; exact hlt), Option.getD_some, HBA.out] at h2
            exact h2)
          have hadd : (⟨(ad.add (i * 4)).block, (ad.add (i * 4)).off + 2, none⟩ : Addr) = ⟨g, i * 4 + 2, none⟩ := by
            rw [HG.out]; unfold Addr.add; split <;> simp_all
          have hHO := HOQ
          rw [HG.out, ← hbl] at hHO
          have hfz := (show wq.frozen? ⟨(ad.add (i * 4)).block, (ad.add (i * 4)).off + 2, none⟩ = false by rw [hadd]; exact rowsE_frozen hHO _)
          have hst := rowsE_setcell ndV_length hHO (j := i) (by rw [hbl]; exact hlt) (i := 2) (by decide) (.string ⟨(hex (sha nd.data)).toArray⟩) (bareOf nd) (by rw [HBA.out, HBO.out, if_neg (by simpa using HK.out)]; rfl)
          have HOX : Hid ((wq.setCell ⟨(ad.add (i * 4)).block, (ad.add (i * 4)).off + 2, none⟩ (.string ⟨(hex (sha nd.data)).toArray⟩)).ownsRow w1.heap.size 41 4 (.slice (some ad) t.length c5) t.length (rowsE ndV (bared t (i + 1)))) := Lib.hid (by
            rw [hadd, HG.out, HNX.out, ← hbl]; exact hst.1)
          have HBX : Hid (Below w.heap.size w (wq.setCell ⟨(ad.add (i * 4)).block, (ad.add (i * 4)).off + 2, none⟩ (.string ⟨(hex (sha nd.data)).toArray⟩))) := Lib.hid (by
            rw [hadd]; exact HBQ.out.setCell (p := ⟨g, i * 4 + 2, none⟩) (Nat.le_trans HLE.out HGB.out) _)
          clear hwq HOQ hHO hst hadd HOP HBA HNX HBO HSUM HHEX
          generalize hex (sha nd.data) = hx at *
          go_wp2_with (fail)
          go_roundw
          case rel => exact ⟨i + 1, by omega, by go_num, HOX, HBX⟩
          case measure => simp [intOf]; omega
      · obtain rfl : i = t.length := by omega
        have i1 : decide ((t.length : Int) < (t.length : Int)) = false := by rw [decide_eq_false_iff_not]; omega
        have HOE : Hid (wr.ownsRow w1.heap.size 41 4 (.slice A5 t.length c5) t.length (rowsE ndV (t.map bareOf))) := by have := HO; rwa [bared_all] at this
        go_wp2_with (fail)
        go_ret2
        exact ⟨A5, c5, by simp, by simpa using hc6, own_rowsA ndV_length HOE.out (by simp), HW.out⟩
end Go.Proofs.YtjajoiahgfafgaaGreatDoor
end

/- Opening of arguments: a slice of structs that is a cell of an argument; a struct of one-cell fields. -/
section
namespace Go.Proofs.YtjajoiahgfafgaaGreatDoor
open Go.ChangeShapes Go.WideShapes Go.ChangeAt Go.RowKit Go.Deep

section
variable {H : Type} {enc : TypeId × Value → H} {P : Program} {w : World} {base : Nat} {held : Bool}
theorem open_rowsT {α : Type} [Inhabited α] (El : List Value → α → Prop) (wt : α → Nat) {t e : TypeId} {fs : Array Field} {v : Value} {d : DataW H} {ps : List MemPlace} (ht : P.underlying t = some (.slice e)) (he : P.underlying e = some (.struct fs))
    (hone : oneCellFields P fs = true) (hC : P.cellsOf e = fs.size)
    (hel : ∀ (vs : List Value) (ys : List (DataW H × List MemPlace)) n, vs.length = fs.size → ys.length = fs.size → (∀ (j : Nat) (f : Field), fs[j]? = some f → ∃ v y, vs[j]? = some v ∧ ys[j]? = some y ∧ DataW.trod enc P w base (fun _ => true) held n f.type [v] = some y) →
      ∃ x, El vs x ∧ wt x ≤ Rows.uptoBulk (DataW.agg (ys.map (·.1))))
    (hd : ∃ fuel, DataW.trod enc P w base (fun _ => true) held fuel t [v] = some (d, ps)) :
    ∃ A c, ∃ (l : List α) (V : List (List Value)), v = .slice A l.length c ∧ l.length ≤ c ∧ c ≤ maxLen ∧ V.length = l.length ∧ IsRows w fs.size A V ∧ (∀ k (h : k < l.length) (h' : k < V.length), El V[k] l[k]) ∧ (l.map wt).sum ≤ Rows.uptoBulk d := by
  obtain ⟨fuel, hf⟩ := hd
  rcases open_slice ht hf with ⟨hcs, hx⟩ | ⟨a, len, cap, m, n, D, Pl, hcs, _, hl, hm, hmm, hx, hcell⟩
  · simp only [List.cons.injEq, and_true] at hcs
    subst hcs
    simp only [Prod.mk.injEq] at hx
    exact ⟨none, 0, [], [], rfl, Nat.le_refl _, Nat.zero_le _, rfl, fun k h => absurd h (by simp), by simp, by simp⟩
  · simp only [List.cons.injEq, and_true] at hcs
    subst hcs
    simp only [if_true] at hmm
    subst hmm
    simp only [Prod.mk.injEq] at hx
    obtain ⟨X, hX⟩ := choose_lt (α := List Value × α) (p := fun i x => x.1.length = fs.size ∧ (∀ j u, x.1[j]? = some u → w.cell? (a.add (i * fs.size + j)) = some u) ∧ El x.1 x.2 ∧ wt x.2 ≤ Rows.uptoBulk (D i)) (n := len) (fun i hi => by
      obtain ⟨cs', hc, ht'⟩ := hcell i (by omega)
      rw [hC] at hc
      obtain ⟨ys, n', hn', hy, hlen, hyl, hf⟩ := DataW.trod_struct he ht'
      obtain ⟨_, hcl, hat⟩ := World.cells?_some hc
      simp only [Prod.mk.injEq] at hy
      obtain ⟨x, hx1, hx2⟩ := hel cs' ys n' hcl hyl (fun j f hj => by
        obtain ⟨ho, hk⟩ := hone_of hone j f hj
        have hjl : j < fs.size := (Array.getElem?_eq_some_iff.1 hj).1
        have hv : cs'[j]? = some (cs'[j]'(by omega)) := List.getElem?_eq_getElem (by omega)
        have h1 := hf j f hj
        rw [ho, hk] at h1
        have hone' : (cs'.drop j).take 1 = [cs'[j]'(by omega)] := by
          rw [List.drop_eq_getElem_cons (by omega)]
          rfl
        rw [hone'] at h1
        have hys : ys[j]? = some (ys[j]'(by omega)) := List.getElem?_eq_getElem (by omega)
        exact ⟨_, _, hv, hys, h1.trans hys⟩)
      refine ⟨(cs', x), hcl, fun j u hu => ?_, hx1, ?_⟩
      · have hj : j < fs.size := by
          have h1 : j < cs'.length := (List.getElem?_eq_some_iff.1 hu).1
          omega
        rw [← Go.Deep.add_add, hat j hj]
        exact hu
      · rw [hy.1]; exact hx2)
    refine ⟨some a, m, (List.range len).map (fun i => (X i).2), (List.range len).map (fun i => (X i).1), by simp, by simpa using hl, hm, by simp, ?_, ?_, ?_⟩
    · intro k h
      have hk : k < len := by simpa using h
      refine ⟨a, rfl, fun j u hu => (hX k hk).2.1 j u ?_⟩
      simpa using hu
    · intro k h h'
      have hk : k < len := by simpa using h
      simpa using (hX k hk).2.2.1
    · rw [hx.1, Rows.uptoBulk, List.map_map]
      have := bulkAll_range len D (fun i => wt (X i).2) (fun i hi => (hX i hi).2.2.2)
      have e : ((List.range len).map (wt ∘ fun i => (X i).2)).sum = ((List.range len).map (fun i => wt (X i).2)).sum := rfl
      omega
/-- A struct of one-cell fields among the arguments: its cells with their readings. -/
theorem open_aggN {r : Reach} {b0 : Nat} {t : TypeId} {fs : Array Field} {v : Value} {d : DataW H} {p : List MemPlace} (hs : P.underlying t = some (.struct fs)) (hone : oneCellFields P fs = true) (hC : P.cellsOf t = fs.size)
    (hv : Value.okWide P w r b0 t v) (h : DataW.Trod enc P w base (fun _ => true) held t v d p) :
    ∃ (vs : List Value) (ys : List (DataW H × List MemPlace)) (n : Nat), v = .agg vs.toArray ∧ vs.length = fs.size ∧ ys.length = fs.size ∧ d = .agg (ys.map (·.1)) ∧
      ∀ (j : Nat) (f : Field), fs[j]? = some f → ∃ v y, vs[j]? = some v ∧ ys[j]? = some y ∧ DataW.trod enc P w base (fun _ => true) held n f.type [v] = some y := by
  obtain ⟨cs, rfl, hsz⟩ := okWide_struct hs hv
  obtain ⟨fuel, hf⟩ := h
  obtain ⟨ys, n', hn', hy, hlen, hyl, hf⟩ := DataW.trod_struct hs hf
  simp only [Prod.mk.injEq] at hy
  have hcs : (Value.agg cs).cells.toList.length = fs.size := by rw [hlen, hC]
  have hcc : (Value.agg cs).cells.toList = cs.toList := by simp [Value.cells]
  refine ⟨cs.toList, ys, n', by simp, by rw [← hcc]; exact hcs, hyl, hy.1, fun j f hj => ?_⟩
  obtain ⟨ho, hk⟩ := hone_of hone j f hj
  have hjl : j < fs.size := (Array.getElem?_eq_some_iff.1 hj).1
  have hl : cs.toList.length = fs.size := by rw [← hcc]; exact hcs
  have h1 := hf j f hj
  rw [ho, hk, hcc] at h1
  have hone' : (cs.toList.drop j).take 1 = [cs.toList[j]'(by omega)] := by
    rw [List.drop_eq_getElem_cons (by omega)]
    rfl
  rw [hone'] at h1
  have hys : ys[j]? = some (ys[j]'(by omega)) := List.getElem?_eq_getElem (by omega)
  exact ⟨_, _, List.getElem?_eq_getElem (by omega), hys, h1.trans hys⟩
end
end Go.Proofs.YtjajoiahgfafgaaGreatDoor
end

/- A cell that reads at a string's type. -/
section
namespace Go.Proofs.YtjajoiahgfafgaaGreatDoor

section
variable {H : Type} {enc : TypeId × Value → H} {P : Program} {w : World} {base : Nat} {spare : Nat → Bool} {held : Bool} {t : TypeId}
/-- A cell that reads at a string's type. -/
theorem trod_str {fuel : Nat} {c : Value} {y : DataW H × List MemPlace} (ht : P.underlying t = some .string) (h : DataW.trod enc P w base spare held fuel t [c] = some y) :
    ∃ s : List UInt8, c = .string ⟨s.toArray⟩ ∧ y = (.lit (.string s), []) ∧ s.length ≤ maxLen := by
  obtain ⟨b, hb, rfl, hl⟩ := DataW.trod_string ht h
  simp only [List.cons.injEq, and_true] at hb
  subst hb
  exact ⟨b.data.toList, by cases b; simp, rfl, by simpa only [ByteArray.size, Array.length_toList] using hl⟩
end
end Go.Proofs.YtjajoiahgfafgaaGreatDoor
end

/- The frame of a card: a world that holds the listed tables; no parameter wants a stand-in. -/
section
namespace Go.Proofs.YtjajoiahgfafgaaGreatDoor
open Go.ChangeShapes Go.WideShapes Go.ChangeAt Go.RowKit

/-- A table's cells, off its datum. -/
def lits0 : DataW Unit → List Value
  | .lit (.int k n) => [.int k n]
  | _ => []
def lits1 : DataW Unit → List Value
  | .agg ps => ps.flatMap lits0
  | d => lits0 d
def lits2 : DataW Unit → List Value
  | .agg ps => ps.flatMap lits1
  | d => lits1 d
def layAt (h : Array Obj) (g : Nat) (d : DataW Unit) : Array Obj := h.modify g fun
  | .cells _ t frozen => .cells (lits2 d).toArray t frozen
  | o => o
/-- The settled world, the tables laid. -/
noncomputable def laidWorld (os : Os) : World :=
  { World.holding Tryz.prog os ⟨#[], #[], []⟩ with heap := layAt (layAt (World.holding Tryz.prog os ⟨#[], #[], []⟩).heap 2 Rows.laid_unicode_utf8_acceptRanges) 1 Rows.laid_unicode_utf8_first }

theorem card_plain {b : Bool} {name : String} {f0 : FuncId} {fn0 : Func} (hf0 : Tryz.pinned.checked.prog.funcNamed name = some f0) (hfn0 : Tryz.pinned.checked.prog.funcs[f0]? = some fn0) (hl : Tryz.pinned.checked.prog.looks [] = b)
    (ha : (fn0.params.toList.all fun t => !Tryz.pinned.checked.prog.wantsStandIn t) = true) (f : FuncId) (fn : Func) (hf : Tryz.pinned.checked.prog.funcNamed name = some f) (hfn : Tryz.pinned.checked.prog.funcs[f]? = some fn) :
    b = Tryz.pinned.checked.prog.looks [] ∧ ∀ (j : Nat) t, fn.params[j]? = some t → Tryz.pinned.checked.prog.wantsStandIn t = false := by
  obtain rfl : f0 = f := Option.some.inj (hf0.symm.trans hf)
  obtain rfl : fn0 = fn := Option.some.inj (hfn0.symm.trans hfn)
  refine ⟨hl.symm, fun j t ht => ?_⟩
  have hm : t ∈ fn0.params.toList := by
    rw [← Array.getElem?_toList] at ht
    exact List.mem_of_getElem? ht
  have := List.all_eq_true.1 ha t hm
  simpa using this

end Go.Proofs.YtjajoiahgfafgaaGreatDoor
end
