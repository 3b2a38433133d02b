/- strings.SplitSeq at '/': the iterator's walk. -/
import Derived.RangeFuncNested
import Derived.RangeFuncBound
import Derived.RangeFuncCalls
import Derived.RangeFuncLeaves
import Derived.Shelf.Abstract
import Derived.Shelf.RegionOpen
import Derived.WalkKit
import Derived.OwnWalkIn
import Derived.TacticsInMore
import Derived.LoopNIn
import Derived.LoopIn
import Derived.Test.YtgppfcaghjbjmaaDoorLib
import Derived.Test.YtgppfcaghjbjmaaDoorShelf
import Derived.Test.YtgppfcaghjbjmaaDoorPlain01
namespace Go.Proofs.YtgppfcaghjbjmaaDoor
open Go.RowKit Go.Shelf Plain
attribute [local go_sem] Oper.semAt_some

theorem ib_none {c : UInt8} {l : List UInt8} (h : c ∉ l) : Lib.indexByte l c = -1 := by
  induction l with
  | nil => rfl
  | cons b l ih =>
    simp only [List.mem_cons, not_or] at h
    unfold Lib.indexByte
    rw [if_neg (by simpa using fun e => h.1 e.symm), ih h.2]; rfl
theorem ib_first {c : UInt8} (p r : List UInt8) (h : c ∉ p) : Lib.indexByte (p ++ c :: r) c = p.length := by
  induction p with
  | nil => simp [Lib.indexByte]
  | cons b p ih =>
    simp only [List.mem_cons, not_or] at h
    rw [List.cons_append]
    unfold Lib.indexByte
    rw [if_neg (by simpa using fun e => h.1 e.symm), ih h.2, if_neg (by simp)]
    simp
def strLen (W : World) (b : Nat) : Nat := match W.cell? ⟨b, 0, none⟩ with | some (.string s) => s.size | _ => 0

set_option maxHeartbeats 2000000 in
theorem splitSeq1_in (n l bs bp bv base : Nat) (s : List UInt8) (J : List (List UInt8) → World → Prop) (Jx : List (List UInt8) → World → Prop) (hlen : s.length ≤ 4294967280)
    (hbs : bs < base) (hbp : bp < base) (hbv : bv < base) (hsp : bs ≠ bp) (hsv : bs ≠ bv)
    (hY : ∀ pre x W1, J pre W1 → YieldAt Fence.wide (n - 1) Tryd.prog l #[.string ⟨x.toArray⟩] W1 fun e W' =>
      (e = .returned (.bool true) ∧ J (pre ++ [x]) W' ∧ Below base W1 W') ∨ (e = .returned (.bool false) ∧ Jx (pre ++ [x]) W'))
    (hst : ∀ pre W v, J pre W → J pre (W.setCell ⟨bs, 0, none⟩ v))
    (W : World) (hcs : W.cell? ⟨bs, 0, none⟩ = some (.string ⟨s.toArray⟩)) (hcp : W.cell? ⟨bp, 0, none⟩ = some (.string ⟨#[47]⟩)) (hcv : W.cell? ⟨bv, 0, none⟩ = some (.int .i64 0))
    (hfs : W.frozen? ⟨bs, 0, none⟩ = false) (h0 : J [] W) :
    CallsIn Fence.wide n Tryd.prog 74 #[.func (.yield l) #[] #[], .pointer (some ⟨bp, 0, none⟩), .pointer (some ⟨bs, 0, none⟩), .pointer (some ⟨bv, 0, none⟩)] W fun e W' => (∃ v, e = .returned v) ∧ (J (parts s) W' ∨ ∃ pre, pre <+: parts s ∧ Jx pre W') := by
  have HJ := Lib.hid h0
  have HY := Lib.hid hY
  have HST := Lib.hid hst
  clear hY hst
  refine callsIn_of_wp Tryd.func74 rfl trivial ?_ rfl
  simp only [Tryd.ntmps74, List.size_toArray, List.length_cons, List.length_nil, Nat.reduceAdd, Nat.reduceSub, Array.replicate_succ, Array.replicate_zero, List.push_toArray, List.append_toArray, List.nil_append, List.cons_append]
  gi_wp2
  gi_loopw [7] (fun _ W' => ∃ (d : List (List UInt8)) (r : List UInt8), Hid (parts s = d ++ parts r) ∧ r.length ≤ s.length ∧ W'.cell? ⟨bs, 0, none⟩ = some (.string ⟨r.toArray⟩) ∧ W'.cell? ⟨bp, 0, none⟩ = some (.string ⟨#[47]⟩) ∧ W'.cell? ⟨bv, 0, none⟩ = some (.int .i64 0) ∧ W'.frozen? ⟨bs, 0, none⟩ = false ∧ Hid (J d W')) (fun _ W' => strLen W' bs)
  case atStart => exact ⟨[], s, Lib.hid rfl, Nat.le_refl _, hcs, hcp, hcv, hfs, HJ⟩
  case round =>
    clear hcs hcp hcv hfs HJ h0
    obtain ⟨d, r, HP, hrl, hcs, hcp, hcv, hfs, HJ⟩ := hrel
    by_cases hm : 47 ∈ r
    · obtain ⟨p, q, rfl, hp⟩ := first_c r hm
      have HI := Lib.hid (Tryd.strings_Index_one ⟨(p ++ 47 :: q).toArray⟩ 47 wr)
      rw [show (ByteArray.mk (p ++ 47 :: q).toArray).data.toList = p ++ 47 :: q from rfl, ib_first p q hp] at HI
      have hy := HY.out d p wr HJ.out
      obtain ⟨fn, tmps, assign, body, hy, hR⟩ := hy
      have HR := Lib.hid hR
      have HPP := Lib.hid (parts_first p q hp)
      have hsl : strLen wr bs = (p ++ 47 :: q).length := by unfold strLen; rw [hcs]; simp [ByteArray.size]
      have HSL := Lib.hid hsl
      have hle : p.length + 1 + q.length ≤ s.length := by simp at hrl; omega
      have ht : ((p ++ 47 :: q).drop 0).take (p.length - 0) = p := by simp
      have htt : (p ++ 47 :: q).take p.length = p := by simp
      have hdd : (p ++ 47 :: q).drop (p.length + 1) = q := by rw [← List.drop_drop, List.drop_left' rfl]; rfl
      have htq : q.take (p.length + (q.length + 1) - (p.length + 1)) = q := List.take_of_length_le (by omega)
      have hdn : decide ((p.length : Int) < 0) = false := by simp
      clear hR hsl hm hp
      gi_wp2
      refine ⟨trivial, fun h => (by cases h), (callsIn_wide.2 HI.out).mono ?_⟩
      rintro e w' ⟨rfl, rfl⟩
      gi_wp2
      refine ⟨fun h => (by cases h), HR.out.mono ?_⟩
      rintro e W3 (⟨rfl, hJ3, hk3⟩ | ⟨rfl, hJx3⟩)
      · have hcs3 := (hk3.cell (p := ⟨bs, 0, none⟩) hbs).trans hcs
        have hcp3 := (hk3.cell (p := ⟨bp, 0, none⟩) hbp).trans hcp
        have hcv3 := (hk3.cell (p := ⟨bv, 0, none⟩) hbv).trans hcv
        have hfs3 := (hk3.frozen (p := ⟨bs, 0, none⟩) hbs).trans hfs
        have HJ3 := Lib.hid hJ3
        clear hJ3 hk3 hcs hcp hcv hfs hy
        gi_wp2
        go_roundw
        case rel =>
          refine ⟨d ++ [p], q, Lib.hid (by rw [HP.out, HPP.out]; simp), by omega, World.cell?_setCell_same' _ _ _ (by rw [hcs3]; rfl), ?_, ?_, ?_, Lib.hid (HST.out _ _ _ HJ3.out)⟩
          · rw [World.cell?_setCell_other _ _ _ _ (by intro e; injection e with e; exact hsp e)]; exact hcp3
          · rw [World.cell?_setCell_other _ _ _ _ (by intro e; injection e with e; exact hsv e)]; exact hcv3
          · rw [World.frozen?_setCell]; exact hfs3
        case measure =>
          rw [HSL.out]
          unfold strLen
          rw [World.cell?_setCell_same' _ _ _ (by rw [hcs3]; rfl)]
          simp [ByteArray.size]
          omega
      · gi_wp2
        refine bodyPost_ret (results_none rfl _ _ _) rfl ?_
        exact ⟨⟨_, rfl⟩, .inr ⟨_, ⟨parts q, by rw [HP.out, HPP.out]; simp⟩, hJx3⟩⟩
    · have HI := Lib.hid (Tryd.strings_Index_one ⟨r.toArray⟩ 47 wr)
      rw [show (ByteArray.mk r.toArray).data.toList = r from rfl, ib_none hm] at HI
      have hy := HY.out d r wr HJ.out
      obtain ⟨fn, tmps, assign, body, hy, hR⟩ := hy
      have HR := Lib.hid hR
      have HPP := Lib.hid (parts_none r hm)
      clear hR hm
      gi_wp2
      refine ⟨trivial, fun h => (by cases h), (callsIn_wide.2 HI.out).mono ?_⟩
      rintro e w' ⟨rfl, rfl⟩
      gi_wp2
      refine ⟨fun h => (by cases h), HR.out.mono ?_⟩
      rintro e W3 (⟨rfl, hJ3, hk3⟩ | ⟨rfl, hJx3⟩)
      · gi_wp2
        go_end0
        exact ⟨⟨_, rfl⟩, .inl (by rw [HP.out, HPP.out]; exact hJ3)⟩
      · gi_wp2
        go_end0
        exact ⟨⟨_, rfl⟩, .inr ⟨_, ⟨[], by rw [HP.out, HPP.out]; simp⟩, hJx3⟩⟩

theorem SplitSeq_any (s : List UInt8) (w : World) :
    Calls Tryd.prog 38 #[.string ⟨s.toArray⟩, .string ⟨#[47]⟩] w fun e w' =>
      e = .returned (.func (.func 74) #[] #[.pointer (some ⟨w.heap.size + 1, 0, none⟩), .pointer (some ⟨w.heap.size, 0, none⟩), .pointer (some ⟨w.heap.size + 2, 0, none⟩)]) ∧
      w' = ((w.alloc (.cells #[.string ⟨s.toArray⟩] 9)).alloc (.cells #[.string ⟨#[47]⟩] 9)).alloc (.cells #[.int .i64 0] 3) := by
  have h1 : Calls Tryd.prog 55 #[.string ⟨s.toArray⟩, .string ⟨#[47]⟩, .int .i64 0] w fun e w' =>
      e = .returned (.func (.func 74) #[] #[.pointer (some ⟨w.heap.size + 1, 0, none⟩), .pointer (some ⟨w.heap.size, 0, none⟩), .pointer (some ⟨w.heap.size + 2, 0, none⟩)]) ∧
      w' = ((w.alloc (.cells #[.string ⟨s.toArray⟩] 9)).alloc (.cells #[.string ⟨#[47]⟩] 9)).alloc (.cells #[.int .i64 0] 3) := by
    go_enter Tryd.func55, Tryd.ntmps55
    go_wp2_with (fail)
    go_ret
    exact ⟨rfl, rfl⟩
  have H1 := Lib.hid h1
  clear h1
  go_enter Tryd.func38, Tryd.ntmps38
  go_wp2_with (fail)
  refine H1.out.mono ?_
  rintro e w1 ⟨rfl, rfl⟩
  go_wp2_with (fail)
  go_ret
  exact ⟨rfl, rfl⟩
end Go.Proofs.YtgppfcaghjbjmaaDoor
