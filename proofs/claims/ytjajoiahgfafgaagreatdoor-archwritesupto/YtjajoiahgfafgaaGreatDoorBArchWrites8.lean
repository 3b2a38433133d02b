/- Texts joined: ArchR1, BuilderW, QuietTail, QuietRest, Arch3, HashCrc, Rec1. -/
import Derived.Test.YtjajoiahgfafgaaGreatDoorBArchWrites5
import Derived.Test.YtjajoiahgfafgaaGreatDoorBArchWrites7
import Derived.Test.YtjajoiahgfafgaaGreatDoorBArchWrites3
import Derived.Test.YtjajoiahgfafgaaGreatDoorBCodeBaseC1
import Derived.StillTail
import Derived.Deep.QuietTactic
import Derived.Test.YtjajoiahgfafgaaGreatDoorBCodeBaseC2
import Derived.Test.YtjajoiahgfafgaaGreatDoorBArchWrites6
set_option linter.unusedSimpArgs false
set_option linter.unusedVariables false

/- The document's digits, IsBare, Check. -/
section
set_option linter.unusedVariables false
namespace Go.Proofs.YtjajoiahgfafgaaGreatDoor
open Go.RowKit Plain

namespace Plain
theorem dig_fin : ∀ n : Fin 256, digs.contains (UInt8.ofNat n.val) = ((decide (48 ≤ (n.val : Int)) && decide ((n.val : Int) ≤ 57)) || (decide (97 ≤ (n.val : Int)) && decide ((n.val : Int) ≤ 102))) := by decide +kernel
theorem dig_at (x : UInt8) : digs.contains x = ((decide (48 ≤ (x.toNat : Int)) && decide ((x.toNat : Int) ≤ 57)) || (decide (97 ≤ (x.toNat : Int)) && decide ((x.toNat : Int) ≤ 102))) := by
  have h := dig_fin ⟨x.toNat, x.toNat_lt⟩
  simpa using h
theorem allB_at {p : UInt8 → Bool} {l : List UInt8} {i : Nat} (h : i < l.length) : (l.drop i).all p = (p l[i] && (l.drop (i + 1)).all p) := by
  rw [List.drop_eq_getElem_cons h, List.all_cons]
theorem all_atN {α : Type} [Inhabited α] {p : α → Bool} {l : List α} {i : Nat} (h : i < l.length) : (l.drop i).all p = (p (l.getD i default) && (l.drop (i + 1)).all p) := by
  rw [List.drop_eq_getElem_cons h, List.all_cons, List.getD_eq_getElem?_getD, List.getElem?_eq_getElem h, Option.getD_some]
end Plain

set_option maxHeartbeats 2000000 in
set_option maxRecDepth 100000 in
theorem rdigits_any (s : List UInt8) (w : World) (hs : s.length ≤ 9223372036854775807) : Calls Tryz.prog 53 #[.string ⟨s.toArray⟩] w (Ret w (.bool (digitsS s))) := by
  unfold digitsS
  have HL : Hid ((s.length == 64) = ((s.length : Int) == 64)) := Lib.hid (by rw [Bool.eq_iff_iff]; simp; omega)
  rw [HL.out, Bool.and_comm]
  obtain ⟨res, hres⟩ : ∃ r, s.all (fun c => digs.contains c) = r := ⟨_, rfl⟩
  have HRES : Hid ((s.drop 0).all (fun c => digs.contains c) = res) := Lib.hid hres
  rw [hres]
  clear hres
  go_enter Tryz.func53, Tryz.ntmps53
  go_wp2_with (fail)
  go_loopw [3] (fun t3 W => ∃ i : Nat, i ≤ s.length ∧ t3 = .int .i64 i ∧ Hid ((s.drop i).all (fun c => digs.contains c) = res) ∧ W = w) (fun t3 _ => s.length - (intOf t3).toNat)
  case atStart => exact ⟨0, by omega, rfl, HRES, rfl⟩
  case round =>
    clear HRES
    obtain ⟨i, hi, rfl, HE, rfl⟩ := hrel
    have i0 : (0 : Int) ≤ i := by omega
    by_cases hlt : i < s.length
    · have i1 : (i : Int) < s.length := by omega
      have e1 : IntKind.i64.wrap ((i : Int) + 1) = (i : Int) + 1 := IntWalk.i64_in _ (by omega)
      have hat := allB_at (p := fun c => digs.contains c) hlt
      rw [HE.out] at hat
      have hg : (ByteArray.mk s.toArray)[i]'(by simpa [ByteArray.size] using hlt) = s[i] := rfl
      generalize s[i] = x at *
      obtain ⟨nx, hnx⟩ : ∃ b, (s.drop (i + 1)).all (fun c => digs.contains c) = b := ⟨_, rfl⟩
      have HNX := Lib.hid hnx
      rw [hnx, dig_at] at hat
      have HAT := Lib.hid hat
      clear hat hnx
      cases h1 : decide (48 ≤ (x.toNat : Int)) with
      | true =>
        cases h2 : decide ((x.toNat : Int) ≤ 57) with
        | true =>
          have HRF := Lib.hid (show (s.drop (i + 1)).all (fun c => digs.contains c) = res by rw [HNX.out, HAT.out, h1, h2]; simp)
          go_wp2_with (fail)
          go_roundw
          case rel => exact ⟨i + 1, by omega, by go_num, HRF, by first | trivial | rfl⟩
          case measure => simp [intOf]; omega
        | false =>
          cases h3 : decide (97 ≤ (x.toNat : Int)) with
          | true =>
            cases h4 : decide ((x.toNat : Int) ≤ 102) with
            | true =>
              have HRF := Lib.hid (show (s.drop (i + 1)).all (fun c => digs.contains c) = res by rw [HNX.out, HAT.out, h1, h2, h3, h4]; simp)
              go_wp2_with (fail)
              go_roundw
              case rel => exact ⟨i + 1, by omega, by go_num, HRF, by first | trivial | rfl⟩
              case measure => simp [intOf]; omega
            | false =>
              have HRF := Lib.hid (show res = false by rw [HAT.out, h1, h2, h3, h4]; simp)
              go_wp2_with (fail)
              go_ret
              exact ⟨by rw [HRF.out]; simp, Below.refl _ _⟩
          | false =>
            have HRF := Lib.hid (show res = false by rw [HAT.out, h1, h2, h3]; simp)
            go_wp2_with (fail)
            go_ret
            exact ⟨by rw [HRF.out]; simp, Below.refl _ _⟩
      | false =>
        cases h3 : decide (97 ≤ (x.toNat : Int)) with
        | true =>
          cases h4 : decide ((x.toNat : Int) ≤ 102) with
          | true =>
            have HRF := Lib.hid (show (s.drop (i + 1)).all (fun c => digs.contains c) = res by rw [HNX.out, HAT.out, h1, h3, h4]; simp)
            go_wp2_with (fail)
            go_roundw
            case rel => exact ⟨i + 1, by omega, by go_num, HRF, by first | trivial | rfl⟩
            case measure => simp [intOf]; omega
          | false =>
            have HRF := Lib.hid (show res = false by rw [HAT.out, h1, h3, h4]; simp)
            go_wp2_with (fail)
            go_ret
            exact ⟨by rw [HRF.out]; simp, Below.refl _ _⟩
        | false =>
          have HRF := Lib.hid (show res = false by rw [HAT.out, h1, h3]; simp)
          go_wp2_with (fail)
          go_ret
          exact ⟨by rw [HRF.out]; simp, Below.refl _ _⟩
    · obtain rfl : i = s.length := by omega
      have i1 : decide ((s.length : Int) < (s.length : Int)) = false := by rw [decide_eq_false_iff_not]; omega
      have HRF := Lib.hid (show res = true by rw [← HE.out]; simp)
      go_wp2_with (fail)
      go_ret
      exact ⟨by rw [HRF.out]; simp, Below.refl _ _⟩

set_option maxHeartbeats 2000000 in
set_option maxRecDepth 100000 in
theorem rbare_any (t : List Nd) (A : Option Addr) (c : Nat) (w : World) (hR : IsRows w 4 A (t.map ndV)) (hc : t.length ≤ c) (hlen : t.length ≤ 9223372036854775807) (hp : ∀ n ∈ t, n.path.length ≤ 8796093022200 ∧ n.data.length ≤ 9223372036854775807) :
    Calls Tryz.prog 21 #[.slice A t.length c] w (Ret w (.bool (isBareT t))) := by
  have HCK := Lib.hid (fun W (h : Below w.heap.size w W) => rcheck_any t A c W (hR.below h) hc hlen hp)
  have HR := Lib.hid (fun W (h : Below w.heap.size w W) => hR.below h)
  have HP := Lib.hid hp
  unfold isBareT
  obtain ⟨bt, hbt⟩ : ∃ r, treeOK t = r := ⟨_, rfl⟩
  rw [hbt] at HCK ⊢
  obtain ⟨res, hres⟩ : ∃ r, t.all bareN = r := ⟨_, rfl⟩
  have HRES : Hid ((t.drop 0).all bareN = res) := Lib.hid hres
  rw [hres]
  clear hres hbt hR hp
  go_enter Tryz.func21, Tryz.ntmps21
  go_wp2_with (fail)
  go_loopw [3] (fun t3 W => ∃ i : Nat, i ≤ t.length ∧ t3 = .int .i64 i ∧ Hid ((t.drop i).all bareN = res) ∧ Hid (Below w.heap.size w W)) (fun t3 _ => t.length - (intOf t3).toNat)
  case atStart => exact ⟨0, by omega, rfl, HRES, Lib.hid (Below.refl _ _)⟩
  case round =>
    clear HRES
    obtain ⟨i, hi, rfl, HE, HB⟩ := hrel
    have i0 : (0 : Int) ≤ i := by omega
    by_cases hlt : i < t.length
    · have i1 : (i : Int) < t.length := by omega
      have e1 : IntKind.i64.wrap ((i : Int) + 1) = (i : Int) + 1 := IntWalk.i64_in _ (by omega)
      have hat := all_atN (p := bareN) hlt
      rw [HE.out] at hat
      obtain ⟨ad, rfl, c0, c1, c2, c3⟩ := node_cells (HR.out _ HB.out) hlt
      have HD := Lib.hid (fun W => rdigits_any (t.getD i default).data W (HP.out _ (mem_getD hlt)).2)
      generalize t.getD i default = nd at *
      obtain ⟨p, k, d, m⟩ := nd
      simp only at c0 c1 c2 c3 HD
      unfold bareN at hat
      simp only at hat
      by_cases hk : k = 2
      · subst hk
        have HRF := Lib.hid (show (t.drop (i + 1)).all bareN = res by rw [hat]; rfl)
        clear hat HD
        go_wp2_with (fail)
        go_roundw
        case rel => exact ⟨i + 1, by omega, by go_num, HRF, HB⟩
        case measure => simp [intOf]; omega
      · have hk2 : (k == 2) = false := by simpa using hk
        rw [hk2, Bool.false_or] at hat
        have hk3 : (k != 2) = true := by simpa using hk
        have HAT := Lib.hid (show res = (digitsS d && (t.drop (i + 1)).all bareN) from hat)
        clear hat
        generalize digitsS d = b at *
        cases b with
        | false =>
          have HRF := Lib.hid (show res = false by rw [HAT.out]; rfl)
          go_wp2_with (fail)
          refine (HD.out _).mono ?_
          rintro e w1 ⟨rfl, hw1⟩
          go_wp2_with (fail)
          go_ret
          exact ⟨by rw [HRF.out]; simp, HB.out.trans (hw1.mono HB.out.size)⟩
        | true =>
          have HRF := Lib.hid (show (t.drop (i + 1)).all bareN = res by rw [HAT.out]; rfl)
          go_wp2_with (fail)
          refine (HD.out _).mono ?_
          rintro e w1 ⟨rfl, hw1⟩
          go_wp2_with (fail)
          go_roundw
          case rel => exact ⟨i + 1, by omega, by go_num, HRF, Lib.hid (HB.out.trans (hw1.mono HB.out.size))⟩
          case measure => simp [intOf]; omega
    · obtain rfl : i = t.length := by omega
      have i1 : decide ((t.length : Int) < (t.length : Int)) = false := by rw [decide_eq_false_iff_not]; omega
      have HRF := Lib.hid (show res = true by rw [← HE.out]; simp)
      cases bt with
      | true =>
        have HC : Hid (∀ W, Below w.heap.size w W → Calls Tryz.prog 48 #[.slice A t.length c] W (Ret W (.int .i64 0))) := HCK
        clear HCK
        go_wp2_with (fail)
        refine (HC.out _ HB.out).mono ?_
        rintro e w1 ⟨rfl, hw1⟩
        go_wp2_with (fail)
        go_ret
        exact ⟨by rw [HRF.out]; first | rfl | simp, HB.out.trans (hw1.mono HB.out.size)⟩
      | false =>
        have HC : Hid (∀ W, Below w.heap.size w W → Calls Tryz.prog 48 #[.slice A t.length c] W (Ret W (.int .i64 60))) := HCK
        clear HCK
        go_wp2_with (fail)
        refine (HC.out _ HB.out).mono ?_
        rintro e w1 ⟨rfl, hw1⟩
        go_wp2_with (fail)
        go_ret
        exact ⟨by rw [HRF.out]; first | rfl | simp, HB.out.trans (hw1.mono HB.out.size)⟩
end Go.Proofs.YtjajoiahgfafgaaGreatDoor
end

/- Contracts of strings.Builder's methods at a builder that a struct of the call's own embeds: arch's writer. -/
section
set_option linter.unusedVariables false
namespace Go.Proofs.YtjajoiahgfafgaaGreatDoor
open Go.RowKit

theorem liesWriter : liesAt Tryz.prog Tryz.prog.depth 67 (2 / Tryz.prog.cellsOf 67) 0 65 1 = true := by kernel_rfl
theorem fresh_writer (w : World) : Lib.IsBuilderF 67 5 w.heap.size w.heap.size (Lib.byteCells []) (w.alloc (.cells #[.pointer none, .slice none 0 0] 67)) :=
  Lib.IsBuilderF.of (Lib.fresh_isBuilder _ _ w)

set_option maxHeartbeats 400000 in
theorem copyCheckW_used (b : Nat) (w : World) (h0 : w.cell? ⟨b, 0, none⟩ = some (.pointer (some ⟨b, 0, none⟩))) :
    Calls Tryz.prog 91 #[.pointer (some ⟨b, 0, none⟩)] w fun e w' => e = .returned (.tuple #[]) ∧ w' = w := by
  obtain ⟨j, hj, _⟩ := Option.map_eq_some_iff.1 sizeBuilder
  have hne := fun w => Lib.run_neq_ptr_same (P := Tryz.prog) w ⟨b, 0, none⟩ Tryz.underlying62 hj
  go_enter Tryz.func91, Tryz.ntmps91
  go_wp2_with (fail)
  go_end0
  exact ⟨rfl, rfl⟩

set_option maxHeartbeats 400000 in
theorem copyCheckW_fresh (b : Nat) (w : World) (h0 : w.cell? ⟨b, 0, none⟩ = some (.pointer none)) (hsh : w.shape? b = some (67, 2)) (hfz : w.frozen? ⟨b, 0, none⟩ = false) :
    Calls Tryz.prog 91 #[.pointer (some ⟨b, 0, none⟩)] w fun e w' => e = .returned (.tuple #[]) ∧ w' = w.setCell ⟨b, 0, none⟩ (.pointer (some ⟨b, 0, none⟩)) := by
  obtain ⟨j, hj, hjs⟩ := Option.map_eq_some_iff.1 sizeBuilder
  have c1 := Lib.run_to_unsafe (P := Tryz.prog) w ⟨b, 0, none⟩ Tryz.underlying62 Tryz.underlying150 hj (by rw [hjs]; decide) hsh (Nat.zero_lt_succ 1)
  have c2 := Lib.run_from_unsafe (P := Tryz.prog) w ⟨b, 0, none⟩ Tryz.underlying150 Tryz.underlying62 hj hsh liesWriter
  have c3 : ∀ (x : Value) w, (callFunc 118 #[x]).run Tryz.prog w = .ok (.value x) w := fun x w => by
    rw [run_callFunc_extern Tryz.func118 (by kernel_rfl) (by kernel_rfl) (by kernel_rfl) (e := Extern.AbiNoEscape.same) (by kernel_rfl), Lib.run_noEscape]
    rfl
  go_enter Tryz.func91, Tryz.ntmps91
  go_wp2_with (fail)
  go_end0
  exact ⟨rfl, rfl⟩

theorem copyCheckW_any (B b : Nat) (bs : List Value) (w : World) (h : Lib.IsBuilderF 67 5 B b bs w) :
    Calls Tryz.prog 91 #[.pointer (some ⟨b, 0, none⟩)] w fun e w' => e = .returned (.tuple #[]) ∧
      (Lib.BuilderAtF 67 5 B b (.pointer (some ⟨b, 0, none⟩)) bs w' ∧ Below B w w' ∧ Lib.OthersKept 5 (some b) w w') := by
  rcases h with h | h
  · refine (copyCheckW_fresh b w h.cell0 h.shape h.frozen0).mono ?_
    rintro e w' ⟨rfl, rfl⟩
    exact ⟨rfl, h.used _, (Below.refl B w).setCell (p := ⟨b, 0, none⟩) h.1 _, (Lib.OthersKept.refl _ _ w).setCell ⟨b, 0, none⟩ rfl _⟩
  · refine (copyCheckW_used b w h.cell0).mono ?_
    rintro e w' ⟨rfl, rfl⟩
    exact ⟨rfl, h, Below.refl B _, Lib.OthersKept.refl _ _ _⟩

set_option maxHeartbeats 400000 in
theorem WriteStringW_any (B b : Nat) (bs : List Value) (s : ByteArray) (w : World) (h : Lib.IsBuilderF 67 5 B b bs w) (hlen : bs.length + s.size ≤ 140737488355328) (hBw : B ≤ w.heap.size) :
    Calls Tryz.prog 63 #[.pointer (some ⟨b, 0, none⟩), .string s] w fun e w' => e = .returned (.tuple #[.int .i64 s.size, .nilIface]) ∧
      (Lib.BuilderAtF 67 5 B b (.pointer (some ⟨b, 0, none⟩)) (bs ++ Lib.strCells s) w' ∧ Below B w w' ∧ Lib.OthersKept 5 (some b) w w') := by
  obtain ⟨i0, hi, hz0, hz1, hz2⟩ := info_parts info_byte
  go_enter Tryz.func63, Tryz.ntmps63
  go_wp2_with (fail)
  refine (copyCheckW_any B b bs _ h).mono ?_
  rintro e w1 ⟨rfl, h1, hb1, hk1⟩
  obtain ⟨hB, v, hbk, hown, hne⟩ := h1
  have c0 : w1.cell? ⟨b, 0, none⟩ = some (.pointer (some ⟨b, 0, none⟩)) := by rw [Lib.cell_of_heap hbk]; rfl
  have c1 : w1.cell? ⟨b, 1, none⟩ = some v := by rw [Lib.cell_of_heap hbk]; rfl
  go_wp2_with (at_builtin; refine Lib.wpList_append_own_stringF _ rfl _ _ 63 9 rfl B 5 i0 Tryz.underlying63 Tryz.underlying9 hi hz0 hz1 hz2 _ _ _ rfl hown s rfl ?c3 ?c4 ?c5 ?_)
  case c3 => unfold maxLen; omega
  case c4 => omega
  case c5 => have := hb1.size; omega
  intro v' w2 hown' hgrow _
  have hlt : b < w1.heap.size := by
    rcases Nat.lt_or_ge b w1.heap.size with h' | h'
    · exact h'
    · simp [Array.getElem?_eq_none h'] at hbk
  have hb2 : w2.heap[b]? = some (.cells #[.pointer (some ⟨b, 0, none⟩), v] 67 (0, 0)) := by
    rw [hgrow.block b hlt (fun e => hne e.symm)]
    exact hbk
  have d0 : w2.cell? ⟨b, 0, none⟩ = some (.pointer (some ⟨b, 0, none⟩)) := by rw [Lib.cell_of_heap hb2]; rfl
  have d1 : w2.cell? ⟨b, 1, none⟩ = some v := by rw [Lib.cell_of_heap hb2]; rfl
  have f1 : w2.frozen? ⟨b, 1, none⟩ = false := Lib.frozen_of_heap hb2 1
  obtain ⟨ao, n', cap, rfl⟩ : ∃ ao n' cap, v' = .slice ao n' cap := by
    rcases hown'.2 with ⟨hv, _⟩ | ⟨g, cap, cur, fz, hv, _⟩
    · exact ⟨_, _, _, hv⟩
    · exact ⟨_, _, _, hv⟩
  go_wp2
  go_ret2
  refine ⟨rfl, ?_, ?_, (hk1.grown hgrow (Lib.ownsRowF_kind hown)).setCell ⟨b, 1, none⟩ rfl _⟩
  · exact Lib.BuilderAtF.put (T := 67) (e := 5) hB hb2 (bs' := bs ++ Lib.strCells s) (by simpa [Lib.strCells_length] using hown') (by decide)
  · exact (hb1.grown hgrow (by have := hb1.size; omega) (fun k hk => (hown.lt k hk).1)).setCell (p := ⟨b, 1, none⟩) hB _

/-- The same, by lists of bytes. -/
theorem WriteStringW_list (B b : Nat) (l s : List UInt8) (w : World) (h : Lib.IsBuilderF 67 5 B b (Lib.byteCells l) w) (hlen : l.length + s.length ≤ 140737488355328) (hBw : B ≤ w.heap.size) :
    Calls Tryz.prog 63 #[.pointer (some ⟨b, 0, none⟩), .string ⟨s.toArray⟩] w fun e w' => e = .returned (.tuple #[.int .i64 s.length, .nilIface]) ∧
      (Lib.IsBuilderF 67 5 B b (Lib.byteCells (l ++ s)) w' ∧ Below B w w' ∧ Lib.OthersKept 5 (some b) w w') :=
  (WriteStringW_any B b _ ⟨s.toArray⟩ w h (by simpa [Lib.byteCells_length, ByteArray.size] using hlen) hBw).mono fun e w' ⟨he, h1, h2, h3⟩ =>
    ⟨he, .inr (by rw [Lib.byteCells_append]; exact h1), h2, h3⟩

set_option maxHeartbeats 1000000 in
set_option maxRecDepth 100000 in
theorem StringW_any (B b : Nat) (l : List UInt8) (w : World) (h : Lib.IsBuilderF 67 5 B b (Lib.byteCells l) w) (h0 : l ≠ []) :
    Calls Tryz.prog 38 #[.pointer (some ⟨b, 0, none⟩)] w fun e w' => e = .returned (.string ⟨l.toArray⟩) ∧ Below B w w' := by
  obtain ⟨p, hp, hAt⟩ : ∃ p, (p = .pointer none ∨ p = .pointer (some ⟨b, 0, none⟩)) ∧ Lib.BuilderAtF 67 5 B b p (Lib.byteCells l) w := by
    rcases h with h | h
    · exact ⟨_, .inl rfl, h⟩
    · exact ⟨_, .inr rfl, h⟩
  obtain ⟨hB, v, hbk, hown, hne⟩ := hAt
  have hl0 : l.length ≠ 0 := by simpa using h0
  rw [Lib.byteCells_length] at hown
  obtain ⟨g, cap, cur, fz, rfl, hbg, hg, hfz, hnc, hcm, hcs, htake⟩ : ∃ g cap cur fz, v = .slice (some ⟨g, 0, none⟩) l.length cap ∧ B ≤ g ∧ w.heap[g]? = some (.cells cur 5 fz) ∧ fz.2 ≤ l.length * 1 ∧ l.length ≤ cap ∧ cap ≤ maxLen ∧ cur.size = cap * 1 ∧ cur.toList.take (l.length * 1) = Lib.byteCells l := by
    rcases hown.2 with ⟨_, hz⟩ | ⟨g, cap, cur, fz, hv, r⟩
    · exact absurd hz hl0
    · exact ⟨g, cap, cur, fz, hv, r⟩
  have c1 : w.drew.cell? ⟨b, 1, none⟩ = some (.slice (some ⟨g, 0, none⟩) l.length cap) := by
    have : w.drew.heap[b]? = some (.cells #[p, .slice (some ⟨g, 0, none⟩) l.length cap] 67 (0, 0)) := hbk
    rw [Lib.cell_of_heap this]; rfl
  have hSD : (Builtin.unsafeSliceData_ #[63] 102 #[.slice (some ⟨g, 0, none⟩) l.length cap]).run Tryz.prog w.drew = .ok (.pointer (some ⟨g, 0, none⟩)) w.drew :=
    Lib.run_unsafeSliceData_row _ _ _ _ _ _ (by omega)
  have hUS : (Builtin.unsafeString_ #[102, 3] 9 #[.pointer (some ⟨g, 0, none⟩), .int .i64 l.length]).run Tryz.prog w.drew = .ok (.string ⟨l.toArray⟩) (w.drew.freeze ⟨g, 0, none⟩ l.length) := by
    refine Lib.run_unsafeString_row w.drew 102 3 9 5 Tryz.underlying102 (by kernel_rfl) g cur.size (by have hg' : w.drew.heap[g]? = some (.cells cur 5 fz) := hg; simp [World.shape?, hg']) l h0 (by omega) (by unfold maxLen at hcm; omega) ?_
    intro j x hx
    have := hown.cells (g := g) rfl j (.int .u8 x.toNat) (by simp [Lib.byteCells, hx])
    exact this
  have mixed : Tryz.prog.follows .mixedOrders = true := by kernel_rfl
  go_enter Tryz.func38, Tryz.ntmps38
  go_wp2_with (fail)
  go_region_o
  all_goals (go_wp2_with (fail); go_ret; exact ⟨rfl, Lib.below_freeze (Below.drew (Below.refl B w)) (p := ⟨g, 0, none⟩) hbg _⟩)
end Go.Proofs.YtjajoiahgfafgaaGreatDoor
end

/- A region that draws its order: a head whose operations each yield one value in every world of a class, and a tail that comes behind it in one order alone. -/
section
namespace Go.Proofs.YtjajoiahgfafgaaGreatDoor
open Go.RowKit

section
variable {P : Program} {ops : Array Oper} {md : Region.Mode} {C : World → Prop}
def wpAnyQL (P : Program) (md : Region.Mode) (ops : Array Oper) (C : World → Prop) (n : Nat) (L : Array Bool → Act → Prop) : Nat → Array Bool → Act → Prop
  | 0, listed, a => L listed a
  | f + 1, listed, a => Region.ready md ops listed ≠ [] ∧ ∀ i ∈ Region.ready md ops listed, i < n ∧ qOp P ops C i (wpAnyQL P md ops C n L f (listed.setIfInBounds i true)) a

theorem wpAny_of_qhead {n g : Nat} {L : Array Bool → Act → Prop} {Q' : Exit → Act → World → Prop} (hL : ∀ listed a w, C w → L listed a → wpAny P md ops Q' g listed a w) :
    ∀ (f : Nat) (listed : Array Bool) (a : Act) (w : World), C w → wpAnyQL P md ops C n L f listed a → wpAny P md ops Q' (f + g) listed a w
  | 0, listed, a, w, hw, h => by rw [Nat.zero_add]; exact hL _ _ _ hw h
  | f + 1, listed, a, w, hw, h => by
    rw [show f + 1 + g = (f + g) + 1 by omega]
    exact ⟨fun h0 => absurd h0 h.1, fun i hi => wpOp_of_qOp hw (fun a' w' hw' h' => wpAny_of_qhead hL f _ a' w' hw' h') (h.2 i hi).2⟩

theorem wpAnyQL_first {n i : Nat} {oi : Oper} {v : Value} {L : Array Bool → Act → Prop} (hi : ops[i]? = some oi) (hsel : ∀ (j : Nat) (o : Oper) cs b, ops[j]? = some o → o.op ≠ .select cs b)
    (hs : Region.sinkB md ops n = true) (hc : Region.chainB md ops n = true) (hn : n < ops.size) (hin : i < n)
    (hdone : ∀ listed a, L listed a → ∀ j ∈ Region.ready md ops listed, n ≤ j) :
    ∀ (f : Nat) (listed : Array Bool) (a : Act), HeadInv md ops n listed →
      (∀ j oj, ops[j]? = some oj → j ≠ i → listed.getD j true = false → (∀ e ∈ oj.after, Region.binds md e = true → e.on ≠ i) → oi.apart ops oj = true) →
      i ∈ Region.ready md ops listed → YieldsIn P ops C oi v a →
      wpAnyQL P md ops C n L f (listed.setIfInBounds i true) (a.put oi.dst v) → wpAnyQL P md ops C n L (f + 1) listed a := by
  intro f
  induction f with
  | zero =>
    intro listed a inv _ hr hy H
    have hun := (mem_ready.1 hr).1
    refine ⟨fun h => (by rw [h] at hr; cases hr), fun j hj => ?_⟩
    have hjn : j < n := by
      rcases Nat.lt_or_ge j n with h | h
      · exact h
      · exact absurd hj (tail_waits hs hc hn inv _ i rfl hin hun j h)
    refine ⟨hjn, ?_⟩
    by_cases hji : j = i
    · subst hji; exact hy.qOp hi H
    · have := hdone _ _ H j (ready_mono hj hji)
      omega
  | succ f ih =>
    intro listed a inv hfree hr hy H
    have hun := (mem_ready.1 hr).1
    refine ⟨fun h => (by rw [h] at hr; cases hr), fun j hj => ?_⟩
    have hjn : j < n := by
      rcases Nat.lt_or_ge j n with h | h
      · exact h
      · exact absurd hj (tail_waits hs hc hn inv _ i rfl hin hun j h)
    refine ⟨hjn, ?_⟩
    by_cases hji : j = i
    · subst hji; exact hy.qOp hi H
    · have h1 := (H.2 j (ready_mono hj hji)).2
      obtain ⟨hjun, oj, hoj, hall⟩ := mem_ready.1 hj
      have hnot : ∀ e ∈ oj.after, Region.binds md e = true → e.on ≠ i := fun e he hb heq => by
        have h1 := hall e he hb
        rw [heq, getD_both hun] at h1
        cases h1
      have h2 := qOp_put hoj (hfree j oj hoj hji hjun hnot) (fun cs b => hsel i oi cs b hi) (fun cs b => hsel j oj cs b hoj) hy h1
      have hfree' : ∀ k ok, ops[k]? = some ok → k ≠ i → (listed.setIfInBounds j true).getD k true = false →
          (∀ e ∈ ok.after, Region.binds md e = true → e.on ≠ i) → oi.apart ops ok = true := fun k ok hk hki hun hno => by
        refine hfree k ok hk hki ?_ hno
        by_cases hjk : j = k
        · subst hjk; exact hjun
        · rw [getD_set_ne true hjk] at hun; exact hun
      refine qOp_mono (fun a' h3 => ih (listed.setIfInBounds j true) a' (inv.set hj hjn) hfree' (ready_mono hr (Ne.symm hji)) h3.1 ?_) h2
      rw [Array.setIfInBounds_comm _ _ hji]
      exact h3.2

theorem wpAnyQL_lex {n g : Nat} {Lq : Act → Prop} (hsel : Region.noSelect ops = true) (hs : Region.sinkB md ops n = true) (hc : Region.chainB md ops n = true) (hn : n < ops.size) :
    ∀ (l : List Oper) (k : Nat) (listed : Array Bool) (a : Act), (∀ j, j < l.length → l[j]? = ops[k + j]?) → k + l.length = n → HeadInv md ops n listed →
    Region.lexHead md ops g l.length k listed = true → wpQuiet P ops C Lq l a →
    wpAnyQL P md ops C n (fun listed' a' => Region.seqB md ops g n listed' = true ∧ Lq a') l.length listed a
  | [], k, listed, a, _, hk, _, hB, h => by
    have : k = n := by simpa using hk
    subst this
    exact ⟨by simpa [Region.lexHead] using hB, h⟩
  | o :: l, k, listed, a, hl, hk, inv, hB, h => by
    have h0 : ops[k]? = some o := by simpa using (hl 0 (by simp)).symm
    simp only [List.length_cons, Region.lexHead, Bool.and_eq_true] at hB
    obtain ⟨⟨hr, hf⟩, hB'⟩ := hB
    have hkn : k < n := by simp only [List.length_cons] at hk; omega
    have hr' : k ∈ Region.ready md ops listed := by simpa using hr
    have hst : qOp P ops C k (wpQuiet P ops C Lq l) a := by unfold qOp; simp only [h0]; exact h
    obtain ⟨v, hy, hK⟩ := yieldsIn_of_qOp h0 hst
    exact wpAnyQL_first h0 (Region.noSelect_spec hsel) hs hc hn hkn (fun listed' a' hL => seqB_ready hL.1) l.length listed a inv (Region.free_spec h0 hf) hr' hy
      (wpAnyQL_lex hsel hs hc hn l (k + 1) _ _ (fun j hj => by have := hl (j + 1) (by simp; omega); simpa [Nat.add_assoc, Nat.add_comm 1 j] using this) (by simp only [List.length_cons] at hk; omega) (inv.set hr' hkn) hB' hK)
end

/-- The head: loads, and calls that keep old memory; the tail: whatever it does. -/
theorem wp_region_quiet_tail {P : Program} {id : Nat} {Q : Exit → Act → World → Prop} {a : Act} {w : World} {l : List Oper} (n : Nat) (hm : P.follows .mixedOrders = true) (hB : Region.lexTailB .any l.toArray n = true)
    (h : wpQuiet P l.toArray (fun W => Below w.heap.size w W) (fun a' => ∀ W, Below w.heap.size w W → wpList P l.toArray Q (l.drop n) a' W) (l.take n) a) : (Code.region id l.toArray true).wp P Q a w := by
  simp only [Region.lexTailB, Bool.and_eq_true, decide_eq_true_eq] at hB
  obtain ⟨⟨⟨⟨hsel, hn⟩, hs⟩, hc⟩, hlex⟩ := hB
  have hn' : n < l.length := by simpa using hn
  have htl : (l.take n).length = n := by simp; omega
  have hdl : (l.drop n).length = l.toArray.size - n := by simp
  have inv0 : HeadInv .any l.toArray n (Array.replicate l.toArray.size false) :=
    ⟨by simp, fun j oj _ hl => (by rw [getD_replicate_false] at hl; cases hl), fun t _ ht => getD_in (by simpa using ht) (getD_replicate_false _ _)⟩
  have H := wpAnyQL_lex (md := .any) (g := l.toArray.size - n) hsel hs hc hn (l.take n) 0 _ a (fun j hj => by
    have hj' : j < n := by rw [htl] at hj; exact hj
    simp [hj']) (by simpa using htl) inv0 (by rw [htl]; exact hlex) h
  refine wp_region_any hm ?_
  have := wpAny_of_qhead (Q' := Q) (g := l.toArray.size - n) (fun listed a' W hW hL => by
    have := wpAny_of_seq (md := .any) (Q' := Q) (l.drop n) n listed a' W (fun j => by simp [List.getElem?_drop]) (by rw [hdl]; exact hL.1) (hL.2 W hW)
    rwa [hdl] at this) _ _ _ { w with drawn := w.drawn + 1 } ⟨rfl, rfl, rfl, Nat.le_refl _, fun _ _ => rfl⟩ H
  rw [htl, show n + (l.toArray.size - n) = l.toArray.size by omega] at this
  exact this
end Go.Proofs.YtjajoiahgfafgaaGreatDoor
end

/- A region that draws its order: a head whose operations each yield one value in every world of a class, and behind it a rest in whatever order. -/
section
namespace Go.Proofs.YtjajoiahgfafgaaGreatDoor
open Go.RowKit

/-- Each operation of the rest waits for the head's last one, or for one of the rest ahead of it. -/
def restB (md : Region.Mode) (ops : Array Oper) (n : Nat) : Bool :=
  (List.range ops.size).all fun t => decide (t ≤ n) || (List.range t).any fun j => decide (n ≤ j) && Region.waitsFor md ops t j
def finL (n m : Nat) : Array Bool := (List.replicate n true ++ List.replicate (m - n) false).toArray
def lexTo (md : Region.Mode) (ops : Array Oper) (fin : Array Bool) : Nat → Nat → Array Bool → Bool
  | 0, _, listed => decide (listed = fin)
  | f + 1, k, listed => (Region.ready md ops listed).contains k && Region.free md ops listed k && lexTo md ops fin f (k + 1) (listed.setIfInBounds k true)
/-- n is the head's last operation. -/
def quietRestB (md : Region.Mode) (ops : Array Oper) (n : Nat) : Bool :=
  Region.noSelect ops && decide (n + 1 < ops.size) && Region.sinkB md ops n && restB md ops n && lexTo md ops (finL (n + 1) ops.size) (n + 1) 0 (Array.replicate ops.size false) && (Region.ready md ops (finL (n + 1) ops.size)).all (fun j => decide (n + 1 ≤ j))

section
variable {P : Program} {ops : Array Oper} {md : Region.Mode} {C : World → Prop}
theorem rest_waits {n : Nat} {listed : Array Bool} (hc : restB md ops n = true) (inv : HeadInv md ops (n + 1) listed) (hnl : listed.getD n true = false) :
    ∀ t, n < t → t ∉ Region.ready md ops listed := by
  intro t
  induction t using Nat.strongRecOn with
  | _ t ih =>
    intro ht hr
    obtain ⟨hun, ot, hot, hall⟩ := mem_ready.1 hr
    have htlt : t < ops.size := (Array.getElem?_eq_some_iff.1 hot).1
    have h1 := List.all_eq_true.1 hc t (List.mem_range.2 htlt)
    simp only [Bool.or_eq_true, decide_eq_true_eq] at h1
    rcases h1 with h1 | h1
    · omega
    · obtain ⟨j, hj, hj2⟩ := List.any_eq_true.1 h1
      simp only [Bool.and_eq_true, decide_eq_true_eq] at hj2
      obtain ⟨o', ho', e, he, hb, hon⟩ := Region.waitsFor_spec hj2.2
      have : o' = ot := Option.some.inj (ho'.symm.trans hot)
      subst this
      have h2 := hall e he hb
      have hjt := List.mem_range.1 hj
      rw [hon] at h2
      by_cases hjn : j = n
      · subst hjn
        rw [getD_both hnl] at h2; cases h2
      · rw [getD_both (inv.tail j (by omega) (by omega))] at h2; cases h2
theorem sink_last {n : Nat} {listed : Array Bool} (hs : Region.sinkB md ops n = true) (hn : n < ops.size) (inv : HeadInv md ops (n + 1) listed) : ∀ (d i : Nat), n - i = d → i ≤ n → listed.getD i true = false → listed.getD n true = false := by
  intro d
  induction d using Nat.strongRecOn with
  | _ d ih =>
    intro i hd hi hun
    by_cases hin : i = n
    · subst hin; exact hun
    · have h1 := List.all_eq_true.1 hs i (List.mem_range.2 (by omega))
      obtain ⟨j, hj, hj2⟩ := List.any_eq_true.1 h1
      simp only [Bool.and_eq_true, decide_eq_true_eq] at hj2
      obtain ⟨oj, hoj, e, he, hb, hon⟩ := Region.waitsFor_spec hj2.2
      have hjle := List.mem_range.1 hj
      have hjs : j < listed.size := by rw [inv.size]; omega
      cases hl : listed.getD j false with
      | true =>
        have h2 := inv.closed j oj hoj hl e he hb
        rw [hon, getD_both hun] at h2
        cases h2
      | false => exact ih (n - j) (by omega) j rfl (by omega) (getD_in hjs hl)

theorem wpAnyQR_first {n i : Nat} {oi : Oper} {v : Value} {L : Array Bool → Act → Prop} {G : Array Bool → Prop} (hG : ∀ listed j, G listed → G (listed.setIfInBounds j true)) (hi : ops[i]? = some oi) (hsel : ∀ (j : Nat) (o : Oper) cs b, ops[j]? = some o → o.op ≠ .select cs b)
    (hw : ∀ listed, HeadInv md ops n listed → G listed → ∀ i, i < n → listed.getD i true = false → ∀ t, n ≤ t → t ∉ Region.ready md ops listed) (hin : i < n)
    (hdone : ∀ listed a, L listed a → ∀ j ∈ Region.ready md ops listed, n ≤ j) :
    ∀ (f : Nat) (listed : Array Bool) (a : Act), HeadInv md ops n listed → G listed →
      (∀ j oj, ops[j]? = some oj → j ≠ i → listed.getD j true = false → (∀ e ∈ oj.after, Region.binds md e = true → e.on ≠ i) → oi.apart ops oj = true) →
      i ∈ Region.ready md ops listed → YieldsIn P ops C oi v a →
      wpAnyQL P md ops C n L f (listed.setIfInBounds i true) (a.put oi.dst v) → wpAnyQL P md ops C n L (f + 1) listed a := by
  intro f
  induction f with
  | zero =>
    intro listed a inv g _ hr hy H
    have hun := (mem_ready.1 hr).1
    refine ⟨fun h => (by rw [h] at hr; cases hr), fun j hj => ?_⟩
    have hjn : j < n := by
      rcases Nat.lt_or_ge j n with h | h
      · exact h
      · exact absurd hj (hw listed inv g i hin hun j h)
    refine ⟨hjn, ?_⟩
    by_cases hji : j = i
    · subst hji; exact hy.qOp hi H
    · have := hdone _ _ H j (ready_mono hj hji)
      omega
  | succ f ih =>
    intro listed a inv g hfree hr hy H
    have hun := (mem_ready.1 hr).1
    refine ⟨fun h => (by rw [h] at hr; cases hr), fun j hj => ?_⟩
    have hjn : j < n := by
      rcases Nat.lt_or_ge j n with h | h
      · exact h
      · exact absurd hj (hw listed inv g i hin hun j h)
    refine ⟨hjn, ?_⟩
    by_cases hji : j = i
    · subst hji; exact hy.qOp hi H
    · have h1 := (H.2 j (ready_mono hj hji)).2
      obtain ⟨hjun, oj, hoj, hall⟩ := mem_ready.1 hj
      have hnot : ∀ e ∈ oj.after, Region.binds md e = true → e.on ≠ i := fun e he hb heq => by
        have h1 := hall e he hb
        rw [heq, getD_both hun] at h1
        cases h1
      have h2 := qOp_put hoj (hfree j oj hoj hji hjun hnot) (fun cs b => hsel i oi cs b hi) (fun cs b => hsel j oj cs b hoj) hy h1
      have hfree' : ∀ k ok, ops[k]? = some ok → k ≠ i → (listed.setIfInBounds j true).getD k true = false →
          (∀ e ∈ ok.after, Region.binds md e = true → e.on ≠ i) → oi.apart ops ok = true := fun k ok hk hki hun hno => by
        refine hfree k ok hk hki ?_ hno
        by_cases hjk : j = k
        · subst hjk; exact hjun
        · rw [getD_set_ne true hjk] at hun; exact hun
      refine qOp_mono (fun a' h3 => ih (listed.setIfInBounds j true) a' (inv.set hj hjn) (hG _ _ g) hfree' (ready_mono hr (Ne.symm hji)) h3.1 ?_) h2
      rw [Array.setIfInBounds_comm _ _ hji]
      exact h3.2

theorem wpAnyQR_lex {n : Nat} {fin : Array Bool} {Lq : Act → Prop} {G : Array Bool → Prop} (hG : ∀ listed j, G listed → G (listed.setIfInBounds j true)) (hsel : Region.noSelect ops = true) (hw : ∀ listed, HeadInv md ops n listed → G listed → ∀ i, i < n → listed.getD i true = false → ∀ t, n ≤ t → t ∉ Region.ready md ops listed)
    (hf : ∀ j ∈ Region.ready md ops fin, n ≤ j) :
    ∀ (l : List Oper) (k : Nat) (listed : Array Bool) (a : Act), (∀ j, j < l.length → l[j]? = ops[k + j]?) → k + l.length = n → HeadInv md ops n listed → G listed →
    lexTo md ops fin l.length k listed = true → wpQuiet P ops C Lq l a →
    wpAnyQL P md ops C n (fun listed' a' => listed' = fin ∧ Lq a') l.length listed a
  | [], k, listed, a, _, hk, _, _, hB, h => ⟨by simpa [lexTo] using hB, h⟩
  | o :: l, k, listed, a, hl, hk, inv, g, hB, h => by
    have h0 : ops[k]? = some o := by simpa using (hl 0 (by simp)).symm
    simp only [List.length_cons, lexTo, Bool.and_eq_true] at hB
    obtain ⟨⟨hr, hfr⟩, hB'⟩ := hB
    have hkn : k < n := by simp only [List.length_cons] at hk; omega
    have hr' : k ∈ Region.ready md ops listed := by simpa using hr
    have hst : qOp P ops C k (wpQuiet P ops C Lq l) a := by unfold qOp; simp only [h0]; exact h
    obtain ⟨v, hy, hK⟩ := yieldsIn_of_qOp h0 hst
    exact wpAnyQR_first hG h0 (Region.noSelect_spec hsel) hw hkn (fun listed' a' hL => by rw [hL.1]; exact hf) l.length listed a inv g (Region.free_spec h0 hfr) hr' hy
      (wpAnyQR_lex hG hsel hw hf l (k + 1) _ _ (fun j hj => by have := hl (j + 1) (by simp; omega); simpa [Nat.add_assoc, Nat.add_comm 1 j] using this) (by simp only [List.length_cons] at hk; omega) (inv.set hr' hkn) (hG _ _ g) hB' hK)
end

/-- The head: loads, and calls that keep old memory (its last operation: n); the rest: in whatever order. -/
theorem wp_region_quiet_rest {P : Program} {id : Nat} {Q : Exit → Act → World → Prop} {a : Act} {w : World} {l : List Oper} (n : Nat) (hm : P.follows .mixedOrders = true) (hB : quietRestB .any l.toArray n = true)
    (h : wpQuiet P l.toArray (fun W => Below w.heap.size w W) (fun a' => ∀ W, Below w.heap.size w W → wpAny P .any l.toArray Q (l.length - (n + 1)) (finL (n + 1) l.length) a' W) (l.take (n + 1)) a) : (Code.region id l.toArray true).wp P Q a w := by
  simp only [quietRestB, Bool.and_eq_true, decide_eq_true_eq] at hB
  obtain ⟨⟨⟨⟨⟨hsel, hn⟩, hs⟩, hc⟩, hlex⟩, hall⟩ := hB
  have hn' : n + 1 < l.length := by simpa using hn
  have htl : (l.take (n + 1)).length = n + 1 := by simp; omega
  have inv0 : HeadInv .any l.toArray (n + 1) (Array.replicate l.toArray.size false) :=
    ⟨by simp, fun j oj _ hl => (by rw [getD_replicate_false] at hl; cases hl), fun t _ ht => getD_in (by simpa using ht) (getD_replicate_false _ _)⟩
  have hsz : l.toArray.size = l.length := by simp
  rw [hsz] at hlex hall
  have H := wpAnyQR_lex (md := .any) (G := fun _ => True) (fun _ _ _ => trivial) hsel (fun listed inv _ i hi hun t ht => rest_waits hc inv (sink_last hs (by omega) inv _ i rfl (by omega) hun) t (by omega)) (fun j hj => by have := List.all_eq_true.1 hall j hj; simpa using this) (l.take (n + 1)) 0 _ a (fun j hj => by
    have hj' : j < n + 1 := by rw [htl] at hj; exact hj
    simp [hj']) (by simpa using htl) inv0 trivial (by rw [htl, hsz]; exact hlex) h
  refine wp_region_any hm ?_
  have := wpAny_of_qhead (Q' := Q) (g := l.length - (n + 1)) (fun listed a' W hW hL => by
    rw [hL.1]; exact hL.2 W hW) _ _ _ { w with drawn := w.drawn + 1 } ⟨rfl, rfl, rfl, Nat.le_refl _, fun _ _ => rfl⟩ H
  rw [htl, show n + 1 + (l.length - (n + 1)) = l.toArray.size by rw [hsz]; omega] at this
  exact this

/-- The same, where the first operation (one that asks no world) is taken ahead, and only the rest waits for it. -/
def quietRest1B (md : Region.Mode) (ops : Array Oper) (n : Nat) : Bool :=
  Region.noSelect ops && decide (n + 1 < ops.size) && ((List.range n).all fun i => decide (i = 0) || (List.range (n + 1)).any fun j => decide (i < j) && Region.waitsFor md ops j i) && restB md ops n &&
    lexTo md ops (finL (n + 1) ops.size) n 1 ((Array.replicate ops.size false).setIfInBounds 0 true) && (Region.ready md ops (finL (n + 1) ops.size)).all (fun j => decide (n + 1 ≤ j)) &&
    Region.free md ops (Array.replicate ops.size false) 0 && (Region.ready md ops (Array.replicate ops.size false)).contains 0
theorem sink_last1 {md : Region.Mode} {ops : Array Oper} {n : Nat} {listed : Array Bool} (hs : ((List.range n).all fun i => decide (i = 0) || (List.range (n + 1)).any fun j => decide (i < j) && Region.waitsFor md ops j i) = true) (hn : n < ops.size) (inv : HeadInv md ops (n + 1) listed) :
    ∀ (d i : Nat), n - i = d → 1 ≤ i → i ≤ n → listed.getD i true = false → listed.getD n true = false := by
  intro d
  induction d using Nat.strongRecOn with
  | _ d ih =>
    intro i hd h1i hi hun
    by_cases hin : i = n
    · subst hin; exact hun
    · have h1 := List.all_eq_true.1 hs i (List.mem_range.2 (by omega))
      simp only [Bool.or_eq_true, decide_eq_true_eq] at h1
      rcases h1 with h1 | h1
      · omega
      obtain ⟨j, hj, hj2⟩ := List.any_eq_true.1 h1
      simp only [Bool.and_eq_true, decide_eq_true_eq] at hj2
      obtain ⟨oj, hoj, e, he, hb, hon⟩ := Region.waitsFor_spec hj2.2
      have hjle := List.mem_range.1 hj
      have hjs : j < listed.size := by rw [inv.size]; omega
      cases hl : listed.getD j false with
      | true =>
        have h2 := inv.closed j oj hoj hl e he hb
        rw [hon, getD_both hun] at h2
        cases h2
      | false => exact ih (n - j) (by omega) j rfl (by omega) (by omega) (getD_in hjs hl)
theorem wp_region_move_quiet_rest {P : Program} {id : Nat} {Q : Exit → Act → World → Prop} {a : Act} {w : World} {l : List Oper} {o0 : Oper} {v0 : Value} (d : Nat) (n : Nat) (hm : P.follows .mixedOrders = true) (hB : quietRest1B .any l.toArray n = true)
    (h0 : l.toArray[0]? = some o0) (hd : o0.dst = some d) (hQ : ∀ c a w, Q (.panic c) (a.put o0.dst v0) w → Q (.panic c) a w) (hy : Yields P l.toArray o0 v0 a)
    (h : wpQuiet P l.toArray (fun W => Below w.heap.size w W) (fun a' => ∀ W, Below w.heap.size w W → wpAny P .any l.toArray Q (l.length - (n + 1)) (finL (n + 1) l.length) a' W) ((l.take (n + 1)).drop 1) (a.put (some d) v0)) : (Code.region id l.toArray true).wp P Q a w := by
  rw [← hd] at h
  simp only [quietRest1B, Bool.and_eq_true, decide_eq_true_eq] at hB
  obtain ⟨⟨⟨⟨⟨⟨⟨hsel, hn⟩, hs⟩, hc⟩, hlex⟩, hall⟩, hfree⟩, hready⟩ := hB
  have hn' : n + 1 < l.length := by simpa using hn
  have htl : ((l.take (n + 1)).drop 1).length = n := by simp; omega
  have inv0 : HeadInv .any l.toArray (n + 1) (Array.replicate l.toArray.size false) :=
    ⟨by simp, fun j oj _ hl => (by rw [getD_replicate_false] at hl; cases hl), fun t _ ht => getD_in (by simpa using ht) (getD_replicate_false _ _)⟩
  have hr0 : 0 ∈ Region.ready .any l.toArray (Array.replicate l.toArray.size false) := by simpa using hready
  have inv1 := inv0.set hr0 (by omega)
  have hsz : l.toArray.size = l.length := by simp
  rw [hsz] at hlex hall inv1
  rw [hsz] at hfree hready
  have H := wpAnyQR_lex (md := .any) (G := fun listed => listed.getD 0 true = true) (fun listed j g => by
      by_cases hj : j = 0
      · subst hj
        by_cases hs : 0 < listed.size
        · simp [Array.getD, hs]
        · simp [Array.getD, hs]
      · rw [getD_set_ne true hj]; exact g) hsel (n := n + 1) (fun listed inv g i hi hun t ht => by
    by_cases hi0 : i = 0
    · subst hi0
      rw [g] at hun; cases hun
    · exact rest_waits hc inv (sink_last1 hs (by omega) inv _ i rfl (by omega) (by omega) hun) t (by omega)) (fun j hj => by have := List.all_eq_true.1 hall j hj; simpa using this) ((l.take (n + 1)).drop 1) 1 _ (a.put o0.dst v0) (fun j hj => by
    have hj' : j < n := Nat.lt_of_lt_of_eq hj htl
    rw [List.getElem?_drop, List.getElem?_take_of_lt (by omega)]; simp) (by rw [htl]; omega) inv1 (by simp [Array.getD]) (by rw [htl]; exact hlex) h
  refine wp_region_any hm ?_
  have := wpAny_of_qhead (Q' := Q) (g := l.length - (n + 1)) (fun listed a' W hW hL => by
    rw [hL.1]; exact hL.2 W hW) _ _ _ { w with drawn := w.drawn + 1 } ⟨rfl, rfl, rfl, Nat.le_refl _, fun _ _ => rfl⟩ H
  rw [htl] at this
  have h2 := wpAny_take (Q := Q) h0 hsel hfree hready hQ hy this
  rw [show n + (l.length - (n + 1)) + 1 = l.toArray.size by rw [hsz]; omega] at h2
  rw [hsz] at h2 ⊢
  exact h2
end Go.Proofs.YtjajoiahgfafgaaGreatDoor
end

/- arch's writer: texts, nums. -/
section
set_option linter.unusedVariables false
namespace Go.Proofs.YtjajoiahgfafgaaGreatDoor
open Go.RowKit Plain

theorem below_others {e : TypeId} {b : Option Nat} {w W : World} (h : Below w.heap.size w W) : Lib.OthersKept e b w W := fun k o hk _ _ => (h.block k (Array.getElem?_eq_some_iff.1 hk).1).trans hk
/-- the writer behind a call: what it holds; older memory, and whatever is no row of bytes, is kept -/
def Wr (B b : Nat) (s : List UInt8) (w w' : World) : Prop := Lib.IsBuilderF 67 5 B b (Lib.byteCells s) w' ∧ Below B w w' ∧ Lib.OthersKept 5 (some b) w w'
theorem Wr.below {B b : Nat} {s : List UInt8} {w w1 w2 : World} (h : Wr B b s w w1) (hB : B ≤ w.heap.size) (hb : Below w1.heap.size w1 w2) : Wr B b s w w2 :=
  ⟨builder_below h.1 hb, h.2.1.trans (hb.mono (Nat.le_trans hB h.2.1.size)), h.2.2.trans (below_others hb)⟩
theorem Wr.trans {B b : Nat} {s t : List UInt8} {w w1 w2 : World} (h : Wr B b s w w1) (k : Wr B b t w1 w2) : Wr B b t w w2 := ⟨k.1, h.2.1.trans k.2.1, h.2.2.trans k.2.2⟩

set_option maxHeartbeats 1000000 in
set_option maxRecDepth 100000 in
theorem texts_any (B b : Nat) (s : List UInt8) (l : List (List UInt8)) (A : Option Addr) (c : Nat) (w : World) (hbl : Lib.IsBuilderF 67 5 B b (Lib.byteCells s) w) (hB : B ≤ w.heap.size) (hA : ∀ W, Lib.OthersKept 5 (some b) w W → Reads W 1 A l.length (strs l))
    (hl : ∀ t ∈ l, t.length ≤ 140737488355328) (hn : l.length ≤ 1048576) (hs : s.length + (textsB l).length ≤ 140737488355328) :
    Calls Tryz.prog 35 #[.pointer (some ⟨b, 0, none⟩), .slice A l.length c] w fun e w' => e = .returned (.tuple #[]) ∧ Wr B b (s ++ textsB l) w w' := by
  have HA := Lib.hid hA
  have HL := Lib.hid hl
  have HS := Lib.hid hs
  have HW0 : Hid (Wr B b (s ++ textsB (l.take 0)) w w) := Lib.hid ⟨by simpa [textsB] using hbl, Below.refl _ _, Lib.OthersKept.refl _ _ _⟩
  clear hA hl hs hbl
  go_enter Tryz.func35, Tryz.ntmps35
  go_wp2_with (fail)
  go_loopw [8] (fun t8 W => ∃ k : Nat, k ≤ l.length ∧ t8 = .int .i64 k ∧ Hid (Wr B b (s ++ textsB (l.take k)) w W)) (fun t8 _ => l.length - (intOf t8).toNat)
  case atStart => exact ⟨0, by omega, rfl, HW0⟩
  case round =>
    clear HW0
    obtain ⟨k, hk, rfl, HW⟩ := hrel
    have i0 : (0 : Int) ≤ k := by omega
    have e1 : IntKind.i64.wrap ((k : Int) + 1) = (k : Int) + 1 := IntWalk.i64_in _ (by omega)
    by_cases hlt : k < l.length
    · have i1 : (k : Int) < l.length := by omega
      obtain ⟨ad, rfl, hcell⟩ := (HA.out _ HW.out.2.2).str_at hlt
      have hsn := textsB_snoc hlt
      have hlen : (textsB (l.take (k + 1))).length ≤ (textsB l).length := by
        have h1 : textsB l = textsB (l.take (k + 1)) ++ textsB (l.drop (k + 1)) := by
          unfold textsB; rw [← List.flatMap_append, List.take_append_drop]
        rw [h1, List.length_append]; omega
      have hx := HL.out _ (List.getElem_mem hlt)
      generalize l[k] = x at *
      have HSN := Lib.hid hsn
      have HCALL := Lib.hid (fun W => CText_any x W hx)
      have hlx : (s ++ textsB (l.take k)).length + (textB x).length ≤ 140737488355328 := by
        have := HS.out
        rw [hsn, List.length_append] at hlen
        rw [List.length_append]; omega
      have HLX := Lib.hid hlx
      clear hsn hlen hx hlx
      generalize textB x = y at *
      go_wp2_with (fail)
      refine wp_region_quiet_tail 5 (by kernel_rfl) (by kernel_rfl) ?_
      simp only [List.take, List.drop]
      iterate 5 (go_big_quiet_step ((intro hW; go_at_call 64; exact Ret.quiet hW (HCALL.out _))))
      refine wpQuiet_nil ?_
      intro W hW
      have HW2 := Lib.hid (HW.out.below hB hW)
      clear hW
      go_wp2_with (fail)
      refine (WriteStringW_list B b (s ++ textsB (l.take k)) y _ HW2.out.1 HLX.out (Nat.le_trans hB HW2.out.2.1.size)).mono ?_
      rintro e w2 ⟨rfl, h1, h2, h3⟩
      have HW3 : Hid (Wr B b (s ++ textsB (l.take (k + 1))) w w2) := Lib.hid (by rw [HSN.out, ← List.append_assoc]; exact HW2.out.trans ⟨h1, h2, h3⟩)
      clear h1 h2 h3
      go_wp2_with (fail)
      go_roundw
      case rel => exact ⟨k + 1, by omega, by go_num, HW3⟩
      case measure => simp [intOf]; omega
    · obtain rfl : k = l.length := by omega
      have HW3 : Hid (Wr B b (s ++ textsB l) w wr) := by have := HW; rwa [List.take_of_length_le (Nat.le_refl _)] at this
      go_wp2_with (fail)
      go_end0
      exact ⟨rfl, HW3.out⟩

theorem num_int (n : Int) (w : World) (h0 : 0 ≤ n) (h : n < 9223372036854775808) : Calls Tryz.prog 65 #[.int .i64 n] w (Ret w (.string ⟨(numB n.toNat).toArray⟩)) := by
  obtain ⟨k, rfl⟩ := Int.eq_ofNat_of_zero_le h0
  exact Num_any k w (by omega)

set_option maxHeartbeats 1000000 in
set_option maxRecDepth 100000 in
theorem nums_any (B b : Nat) (s : List UInt8) (l : List Int) (A : Option Addr) (c : Nat) (w : World) (hbl : Lib.IsBuilderF 67 5 B b (Lib.byteCells s) w) (hB : B ≤ w.heap.size) (hA : ∀ W, Lib.OthersKept 5 (some b) w W → Reads W 1 A l.length (ints l))
    (hl : ∀ t ∈ l, 0 ≤ t ∧ t < 9223372036854775808) (hn : l.length ≤ 1048576) (hs : s.length + (numsB l).length ≤ 140737488355328) :
    Calls Tryz.prog 36 #[.pointer (some ⟨b, 0, none⟩), .slice A l.length c] w fun e w' => e = .returned (.tuple #[]) ∧ Wr B b (s ++ numsB l) w w' := by
  have HA := Lib.hid hA
  have HL := Lib.hid hl
  have HS := Lib.hid hs
  have HW0 : Hid (Wr B b (s ++ numsB (l.take 0)) w w) := Lib.hid ⟨by simpa [numsB] using hbl, Below.refl _ _, Lib.OthersKept.refl _ _ _⟩
  clear hA hl hs hbl
  go_enter Tryz.func36, Tryz.ntmps36
  go_wp2_with (fail)
  go_loopw [8] (fun t8 W => ∃ k : Nat, k ≤ l.length ∧ t8 = .int .i64 k ∧ Hid (Wr B b (s ++ numsB (l.take k)) w W)) (fun t8 _ => l.length - (intOf t8).toNat)
  case atStart => exact ⟨0, by omega, rfl, HW0⟩
  case round =>
    clear HW0
    obtain ⟨k, hk, rfl, HW⟩ := hrel
    have i0 : (0 : Int) ≤ k := by omega
    have e1 : IntKind.i64.wrap ((k : Int) + 1) = (k : Int) + 1 := IntWalk.i64_in _ (by omega)
    by_cases hlt : k < l.length
    · have i1 : (k : Int) < l.length := by omega
      obtain ⟨ad, rfl, hcell⟩ := (HA.out _ HW.out.2.2).int_at hlt
      have hsn := numsB_snoc hlt
      have hlen : (numsB (l.take (k + 1))).length ≤ (numsB l).length := by
        have h1 : numsB l = numsB (l.take (k + 1)) ++ numsB (l.drop (k + 1)) := by
          unfold numsB; rw [← List.flatMap_append, List.take_append_drop]
        rw [h1, List.length_append]; omega
      have hx := HL.out _ (List.getElem_mem hlt)
      generalize l[k] = x at *
      rw [if_pos hx.1] at hsn
      have HSN := Lib.hid hsn
      have HCALL := Lib.hid (fun W => num_int x W hx.1 hx.2)
      have hlx : (s ++ numsB (l.take k)).length + (numB x.toNat).length ≤ 140737488355328 := by
        have := HS.out
        rw [hsn, List.length_append] at hlen
        rw [List.length_append]; omega
      have HLX := Lib.hid hlx
      clear hsn hlen hx hlx
      generalize numB x.toNat = y at *
      go_wp2_with (fail)
      refine wp_region_quiet_tail 5 (by kernel_rfl) (by kernel_rfl) ?_
      simp only [List.take, List.drop]
      iterate 5 (go_big_quiet_step ((intro hW; go_at_call 65; exact Ret.quiet hW (HCALL.out _))))
      refine wpQuiet_nil ?_
      intro W hW
      have HW2 := Lib.hid (HW.out.below hB hW)
      clear hW
      go_wp2_with (fail)
      refine (WriteStringW_list B b (s ++ numsB (l.take k)) y _ HW2.out.1 HLX.out (Nat.le_trans hB HW2.out.2.1.size)).mono ?_
      rintro e w2 ⟨rfl, h1, h2, h3⟩
      have HW3 : Hid (Wr B b (s ++ numsB (l.take (k + 1))) w w2) := Lib.hid (by rw [HSN.out, ← List.append_assoc]; exact HW2.out.trans ⟨h1, h2, h3⟩)
      clear h1 h2 h3
      go_wp2_with (fail)
      go_roundw
      case rel => exact ⟨k + 1, by omega, by go_num, HW3⟩
      case measure => simp [intOf]; omega
    · obtain rfl : k = l.length := by omega
      have HW3 : Hid (Wr B b (s ++ numsB l) w wr) := by have := HW; rwa [List.take_of_length_le (Nat.le_refl _)] at this
      go_wp2_with (fail)
      go_end0
      exact ⟨rfl, HW3.out⟩
end Go.Proofs.YtjajoiahgfafgaaGreatDoor
end


section
namespace Go.Proofs.YtjajoiahgfafgaaGreatDoor
open Go.RowKit Plain

set_option maxHeartbeats 400000 in
theorem Crc_any (s : List UInt8) (w : World) (hs : s.length ≤ 9223372036854775807) :
    Calls Tryz.prog 67 #[.string ⟨s.toArray⟩] w (Ret w (.int .u32 (crc s))) := by
  go_enter Tryz.func67, Tryz.ntmps67
  go_wp2_with (fail)
  go_loopw [4, 5, 8, 13] (fun t4 t5 t8 t13 W => ∃ (k : Nat) (C : Array Value), k ≤ 16 ∧ t8 = .int .i64 k ∧ W = w.alloc (.cells C 122) ∧ C.size = 16 ∧ ∀ j, j < k → C[j]? = some (.int .u32 (bits1 4 j : Nat))) (fun _ _ t8 _ _ => 16 - (intOf t8).toNat)
  case atStart => exact ⟨0, _, by omega, rfl, rfl, rfl, fun j h => by omega⟩
  case round =>
    obtain ⟨k, C, hk, rfl, rfl, hC, hT⟩ := hrel
    by_cases hlt : k < 16
    · have HT := Lib.hid hT
      clear hT
      go_wp2_with (fail)
      go_loop [5, 13] (fun t5 t13 => ∃ j : Nat, j ≤ 4 ∧ t13 = .int .i64 j ∧ t5 = .int .u32 (bits1 j k : Nat)) (fun _ t13 => 4 - (intOf t13).toNat)
      case atStart => exact ⟨0, by omega, rfl, by simp [bits1]⟩
      case round =>
        obtain ⟨j, hj, rfl, rfl⟩ := hrel
        have hb := bits1_lt (n := j) (v := k) (by omega)
        by_cases hlt : j < 4
        · generalize hx : bits1 j k = x at *
          have HX := Lib.hid hx
          clear hx
          go_wp2_with (fail)
          go_round
          case rel => exact ⟨j + 1, by omega, by go_num, by rw [bit1_go x hb, ← HX.out]; rfl⟩
          case measure => simp [intOf]; omega
        · obtain rfl : j = 4 := by omega
          go_wp2_with (fail)
          go_roundw
          case rel =>
            refine ⟨k + 1, _, by omega, by go_num, rfl, by simp [hC], fun j hj => ?_⟩
            by_cases hjk : j = k
            · subst hjk
              simp [hC, hlt]
            · rw [Array.getElem?_setIfInBounds, if_neg (by omega)]
              exact HT.out j (by omega)
          case measure => simp [intOf]; omega
    · obtain rfl : k = 16 := by omega
      have HT := Lib.hid hT
      clear hT
      go_wp2_with (fail)
      go_loop [6, 7, 29] (fun t6 t7 t29 => ∃ i : Nat, i ≤ s.length ∧ t29 = .int .i64 i ∧ t6 = .int .u32 (crcRun (s.take i) : Nat)) (fun _ _ t29 => s.length - (intOf t29).toNat)
      case atStart => exact ⟨0, by omega, rfl, rfl⟩
      case round =>
        obtain ⟨i, hi, rfl, rfl⟩ := hrel
        have hv := crcRun_lt (s.take i)
        by_cases hlt : i < s.length
        · have hstep : crcRun (s.take (i + 1)) = nib (nib (crcRun (s.take i) ^^^ s[i].toNat)) := by
            unfold crcRun
            rw [List.take_succ_eq_append_getElem hlt, List.foldl_append]
            simp [crcB_nib]
          have hc : s[i].toNat < 256 := s[i].toNat_lt
          obtain ⟨x1, m1, x2, m2, x3, hx1, hm1, hx2, hm2, e1, e2, e3, e4, e5, hx3⟩ := nib_go (crcRun (s.take i)) s[i].toNat hv hc
          rw [← hx3] at hstep
          have HS := Lib.hid hstep
          clear hstep hx3
          generalize crcRun (s.take i) = v at *
          generalize hci : s[i] = c at *
          have c1 : (w.alloc (.cells C 122)).cell? ⟨w.heap.size, m1, none⟩ = some (.int .u32 (bits1 4 m1 : Nat)) := by
            rw [cell_of_row _ _ _ C 122 (0, 0) (heap_alloc_new w _)]; exact HT.out m1 hm1
          have c2 : (w.alloc (.cells C 122)).cell? ⟨w.heap.size, m2, none⟩ = some (.int .u32 (bits1 4 m2 : Nat)) := by
            rw [cell_of_row _ _ _ C 122 (0, 0) (heap_alloc_new w _)]; exact HT.out m2 hm2
          go_wp2_with (fail)
          go_round
          case rel => exact ⟨i + 1, by omega, by go_num, by rw [HS.out]⟩
          case measure => simp [intOf]; omega
        · obtain rfl : i = s.length := by omega
          go_wp2_with (fail)
          go_ret
          refine ⟨?_, (Below.refl _ _).alloc (Nat.le_refl _) _⟩
          have h := not_go (crcRun s) (crcRun_lt s)
          simp only [Array.getD_eq_getD_getElem?, List.getElem?_toArray, List.getElem?_cons_succ, List.getElem?_cons_zero, Option.getD_some, h]
          rfl

end Go.Proofs.YtjajoiahgfafgaaGreatDoor
end


section
namespace Go.Proofs.YtjajoiahgfafgaaGreatDoor
open Go.RowKit Plain

set_option maxHeartbeats 400000 in
theorem four_any (n : Nat) (w : World) (h1 : n < 4294967296) :
    Calls Tryz.prog 66 #[.int .u32 n] w (Ret w (.string ⟨(four n).toArray⟩)) := by
  have hk := fun w xs n cap hn m => run_convert_laid (P := Tryz.prog) w 63 5 9 Tryz.underlying63 Tryz.underlying5 Tryz.underlying9 xs n cap hn m
  have hc := hk w [n / 16777216, n / 65536 % 256, n / 256 % 256, n % 256] 4 4 rfl (0, 0)
  simp only [List.map_cons, List.map_nil] at hc
  clear hk
  go_enter Tryz.func66, Tryz.ntmps66
  go_wp2_with (fail)
  go_ret
  exact ⟨rfl, (Below.refl _ _).alloc (Nat.le_refl _) _⟩

set_option maxHeartbeats 400000 in
theorem four_ref (n : Nat) (w : World) (h1 : n < 4294967296) :
    Calls Tryz.prog 68 #[.int .u32 n] w (Ret w (.string ⟨(four n).toArray⟩)) := by
  have hk := fun w xs n cap hn m => run_convert_laid (P := Tryz.prog) w 63 5 9 Tryz.underlying63 Tryz.underlying5 Tryz.underlying9 xs n cap hn m
  have hc := hk w [n / 16777216, n / 65536 % 256, n / 256 % 256, n % 256] 4 4 rfl (0, 0)
  simp only [List.map_cons, List.map_nil] at hc
  clear hk
  go_enter Tryz.func68, Tryz.ntmps68
  go_wp2_with (fail)
  go_ret
  exact ⟨rfl, (Below.refl _ _).alloc (Nat.le_refl _) _⟩

set_option maxHeartbeats 400000 in
theorem recNumber_any (s : List UInt8) (w : World) (h : 4 ≤ s.length) :
    Calls Tryz.prog 88 #[.string ⟨s.toArray⟩] w (Ret w (.int .u32 (num s : Nat))) := by
  obtain ⟨a, b, c, d, r, rfl⟩ := four_cases h
  have h0 : 0 < (a :: b :: c :: d :: r).length := by omega
  have h1 : (1 : Int) < (a :: b :: c :: d :: r).length := by omega
  have h2 : (2 : Int) < (a :: b :: c :: d :: r).length := by omega
  have h3 : (3 : Int) < (a :: b :: c :: d :: r).length := by omega
  have ha : (a.toNat : Int) < 256 := by have := a.toNat_lt; omega
  have hb : (b.toNat : Int) < 256 := by have := b.toNat_lt; omega
  have hc : (c.toNat : Int) < 256 := by have := c.toNat_lt; omega
  have hd : (d.toNat : Int) < 256 := by have := d.toNat_lt; omega
  have E := num_go a.toNat b.toNat c.toNat d.toNat (by omega) (by omega) (by omega) (by omega)
  go_enter Tryz.func88, Tryz.ntmps88
  go_wp2_with (fail)
  refine wp_region_below (by kernel_rfl) (by kernel_rfl) ?_
  repeat (go_big_quiet_step (fail))
  refine wpQuiet_nil ?_
  intro W1 hW1
  go_wp2_with (fail)
  go_ret
  exact ⟨rfl, hW1⟩

theorem num_drop {s : List UInt8} {i : Nat} (h0 : i < s.length) (n1 : i + 1 < s.length) (n2 : i + 2 < s.length) (n3 : i + 3 < s.length) :
    num (s.drop i) = s[i].toNat * 16777216 + s[i + 1].toNat * 65536 + s[i + 2].toNat * 256 + s[i + 3].toNat := by
  rw [List.drop_eq_getElem_cons h0, List.drop_eq_getElem_cons n1, List.drop_eq_getElem_cons n2, List.drop_eq_getElem_cons n3]; rfl

set_option maxHeartbeats 400000 in
theorem number_ref (s : List UInt8) (i : Nat) (w : World) (h : i + 4 ≤ s.length) (hs : s.length ≤ 9223372036854775807) :
    Calls Tryz.prog 90 #[.string ⟨s.toArray⟩, .int .i64 i] w (Ret w (.int .u32 (num (s.drop i) : Nat))) := by
  have h0 : i < s.length := by omega
  have h1 : (i : Int) + 1 < s.length := by omega
  have h2 : (i : Int) + 2 < s.length := by omega
  have h3 : (i : Int) + 3 < s.length := by omega
  have k1 : IntKind.i64.wrap ((i : Int) + 1) = (i : Int) + 1 := IntWalk.i64_in _ (by omega)
  have k2 : IntKind.i64.wrap ((i : Int) + 2) = (i : Int) + 2 := IntWalk.i64_in _ (by omega)
  have k3 : IntKind.i64.wrap ((i : Int) + 3) = (i : Int) + 3 := IntWalk.i64_in _ (by omega)
  have z1 : (0 : Int) ≤ (i : Int) + 1 := by omega
  have z2 : (0 : Int) ≤ (i : Int) + 2 := by omega
  have z3 : (0 : Int) ≤ (i : Int) + 3 := by omega
  have E := Lib.hid (num_drop h0 (by omega) (by omega) (by omega))
  have ha : (s[i].toNat : Int) < 256 := by have := s[i].toNat_lt; omega
  have hb : (s[i + 1].toNat : Int) < 256 := by have := s[i + 1].toNat_lt; omega
  have hc : (s[i + 2].toNat : Int) < 256 := by have := s[i + 2].toNat_lt; omega
  have hd : (s[i + 3].toNat : Int) < 256 := by have := s[i + 3].toNat_lt; omega
  go_enter Tryz.func90, Tryz.ntmps90
  go_wp2_with (fail)
  refine wp_region_below (by kernel_rfl) (by kernel_rfl) ?_
  repeat (go_big_quiet_step (fail))
  refine wpQuiet_nil ?_
  intro W1 hW1
  go_wp2_with (fail)
  go_ret
  refine ⟨?_, hW1⟩
  rw [E.out]
  simp only [Array.getD_eq_getD_getElem?, List.getElem?_toArray, List.getElem?_cons_succ, List.getElem?_cons_zero, Option.getD_some]
  exact ret_int (by omega)
end Go.Proofs.YtjajoiahgfafgaaGreatDoor
end
