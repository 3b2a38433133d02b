/- Texts joined: BuilderW, Arch3, HashCrc, Rec1, Rec2, Arch4, RowsE, HashCrcRef. -/
import Derived.Test.YtjajoiahgfafgaaGreatDoorBArchBares6
import Derived.Test.YtjajoiahgfafgaaGreatDoorBArchBares9
import Derived.Test.YtjajoiahgfafgaaGreatDoorBArchBares4
import Derived.Test.YtjajoiahgfafgaaGreatDoorBArchBares7
import Derived.Test.YtjajoiahgfafgaaGreatDoorBCodeBaseC2
import Derived.Test.YtjajoiahgfafgaaGreatDoorBCodeBaseC1
import Derived.Test.YtjajoiahgfafgaaGreatDoorBArchBares8
import Derived.Test.YtjajoiahgfafgaaGreatDoorBArchBares1
import Derived.Deep.MidRow
set_option linter.unusedSimpArgs false
set_option linter.unusedVariables false

/- Contracts of strings.Builder's methods at a builder that a struct of the call's own embeds: arch's writer. -/
section
set_option linter.unusedVariables false
namespace Go.Proofs.YtjajoiahgfafgaaGreatDoor
open Go.RowKit

theorem liesWriter : liesAt Tryz.prog Tryz.prog.depth 67 (2 / Tryz.prog.cellsOf 67) 0 65 1 = true := by kernel_rfl
theorem fresh_writer (w : World) : Lib.IsBuilderF 67 5 w.heap.size w.heap.size (Lib.byteCells []) (w.alloc (.cells #[.pointer none, .slice none 0 0] 67)) :=
  Lib.IsBuilderF.of (Lib.fresh_isBuilder _ _ w)

set_option maxHeartbeats 400000 in
theorem copyCheckW_used (b : Nat) (w : World) (h0 : w.cell? ⟨b, 0, none⟩ = some (.pointer (some ⟨b, 0, none⟩))) :
    Calls Tryz.prog 91 #[.pointer (some ⟨b, 0, none⟩)] w fun e w' => e = .returned (.tuple #[]) ∧ w' = w := by
  obtain ⟨j, hj, _⟩ := Option.map_eq_some_iff.1 sizeBuilder
  have hne := fun w => Lib.run_neq_ptr_same (P := Tryz.prog) w ⟨b, 0, none⟩ Tryz.underlying62 hj
  go_enter Tryz.func91, Tryz.ntmps91
  go_wp2_with (fail)
  go_end0
  exact ⟨rfl, rfl⟩

set_option maxHeartbeats 400000 in
theorem copyCheckW_fresh (b : Nat) (w : World) (h0 : w.cell? ⟨b, 0, none⟩ = some (.pointer none)) (hsh : w.shape? b = some (67, 2)) (hfz : w.frozen? ⟨b, 0, none⟩ = false) :
    Calls Tryz.prog 91 #[.pointer (some ⟨b, 0, none⟩)] w fun e w' => e = .returned (.tuple #[]) ∧ w' = w.setCell ⟨b, 0, none⟩ (.pointer (some ⟨b, 0, none⟩)) := by
  obtain ⟨j, hj, hjs⟩ := Option.map_eq_some_iff.1 sizeBuilder
  have c1 := Lib.run_to_unsafe (P := Tryz.prog) w ⟨b, 0, none⟩ Tryz.underlying62 Tryz.underlying150 hj (by rw [hjs]; decide) hsh (Nat.zero_lt_succ 1)
  have c2 := Lib.run_from_unsafe (P := Tryz.prog) w ⟨b, 0, none⟩ Tryz.underlying150 Tryz.underlying62 hj hsh liesWriter
  have c3 : ∀ (x : Value) w, (callFunc 118 #[x]).run Tryz.prog w = .ok (.value x) w := fun x w => by
    rw [run_callFunc_extern Tryz.func118 (by kernel_rfl) (by kernel_rfl) (by kernel_rfl) (e := Extern.AbiNoEscape.same) (by kernel_rfl), Lib.run_noEscape]
    rfl
  go_enter Tryz.func91, Tryz.ntmps91
  go_wp2_with (fail)
  go_end0
  exact ⟨rfl, rfl⟩

theorem copyCheckW_any (B b : Nat) (bs : List Value) (w : World) (h : Lib.IsBuilderF 67 5 B b bs w) :
    Calls Tryz.prog 91 #[.pointer (some ⟨b, 0, none⟩)] w fun e w' => e = .returned (.tuple #[]) ∧
      (Lib.BuilderAtF 67 5 B b (.pointer (some ⟨b, 0, none⟩)) bs w' ∧ Below B w w' ∧ Lib.OthersKept 5 (some b) w w') := by
  rcases h with h | h
  · refine (copyCheckW_fresh b w h.cell0 h.shape h.frozen0).mono ?_
    rintro e w' ⟨rfl, rfl⟩
    exact ⟨rfl, h.used _, (Below.refl B w).setCell (p := ⟨b, 0, none⟩) h.1 _, (Lib.OthersKept.refl _ _ w).setCell ⟨b, 0, none⟩ rfl _⟩
  · refine (copyCheckW_used b w h.cell0).mono ?_
    rintro e w' ⟨rfl, rfl⟩
    exact ⟨rfl, h, Below.refl B _, Lib.OthersKept.refl _ _ _⟩

set_option maxHeartbeats 400000 in
theorem WriteStringW_any (B b : Nat) (bs : List Value) (s : ByteArray) (w : World) (h : Lib.IsBuilderF 67 5 B b bs w) (hlen : bs.length + s.size ≤ 140737488355328) (hBw : B ≤ w.heap.size) :
    Calls Tryz.prog 63 #[.pointer (some ⟨b, 0, none⟩), .string s] w fun e w' => e = .returned (.tuple #[.int .i64 s.size, .nilIface]) ∧
      (Lib.BuilderAtF 67 5 B b (.pointer (some ⟨b, 0, none⟩)) (bs ++ Lib.strCells s) w' ∧ Below B w w' ∧ Lib.OthersKept 5 (some b) w w') := by
  obtain ⟨i0, hi, hz0, hz1, hz2⟩ := info_parts info_byte
  go_enter Tryz.func63, Tryz.ntmps63
  go_wp2_with (fail)
  refine (copyCheckW_any B b bs _ h).mono ?_
  rintro e w1 ⟨rfl, h1, hb1, hk1⟩
  obtain ⟨hB, v, hbk, hown, hne⟩ := h1
  have c0 : w1.cell? ⟨b, 0, none⟩ = some (.pointer (some ⟨b, 0, none⟩)) := by rw [Lib.cell_of_heap hbk]; rfl
  have c1 : w1.cell? ⟨b, 1, none⟩ = some v := by rw [Lib.cell_of_heap hbk]; rfl
  go_wp2_with (at_builtin; refine Lib.wpList_append_own_stringF _ rfl _ _ 63 9 rfl B 5 i0 Tryz.underlying63 Tryz.underlying9 hi hz0 hz1 hz2 _ _ _ rfl hown s rfl ?c3 ?c4 ?c5 ?_)
  case c3 => unfold maxLen; omega
  case c4 => omega
  case c5 => have := hb1.size; omega
  intro v' w2 hown' hgrow _
  have hlt : b < w1.heap.size := by
    rcases Nat.lt_or_ge b w1.heap.size with h' | h'
    · exact h'
    · simp [Array.getElem?_eq_none h'] at hbk
  have hb2 : w2.heap[b]? = some (.cells #[.pointer (some ⟨b, 0, none⟩), v] 67 (0, 0)) := by
    rw [hgrow.block b hlt (fun e => hne e.symm)]
    exact hbk
  have d0 : w2.cell? ⟨b, 0, none⟩ = some (.pointer (some ⟨b, 0, none⟩)) := by rw [Lib.cell_of_heap hb2]; rfl
  have d1 : w2.cell? ⟨b, 1, none⟩ = some v := by rw [Lib.cell_of_heap hb2]; rfl
  have f1 : w2.frozen? ⟨b, 1, none⟩ = false := Lib.frozen_of_heap hb2 1
  obtain ⟨ao, n', cap, rfl⟩ : ∃ ao n' cap, v' = .slice ao n' cap := by
    rcases hown'.2 with ⟨hv, _⟩ | ⟨g, cap, cur, fz, hv, _⟩
    · exact ⟨_, _, _, hv⟩
    · exact ⟨_, _, _, hv⟩
  go_wp2
  go_ret2
  refine ⟨rfl, ?_, ?_, (hk1.grown hgrow (Lib.ownsRowF_kind hown)).setCell ⟨b, 1, none⟩ rfl _⟩
  · exact Lib.BuilderAtF.put (T := 67) (e := 5) hB hb2 (bs' := bs ++ Lib.strCells s) (by simpa [Lib.strCells_length] using hown') (by decide)
  · exact (hb1.grown hgrow (by have := hb1.size; omega) (fun k hk => (hown.lt k hk).1)).setCell (p := ⟨b, 1, none⟩) hB _

/-- The same, by lists of bytes. -/
theorem WriteStringW_list (B b : Nat) (l s : List UInt8) (w : World) (h : Lib.IsBuilderF 67 5 B b (Lib.byteCells l) w) (hlen : l.length + s.length ≤ 140737488355328) (hBw : B ≤ w.heap.size) :
    Calls Tryz.prog 63 #[.pointer (some ⟨b, 0, none⟩), .string ⟨s.toArray⟩] w fun e w' => e = .returned (.tuple #[.int .i64 s.length, .nilIface]) ∧
      (Lib.IsBuilderF 67 5 B b (Lib.byteCells (l ++ s)) w' ∧ Below B w w' ∧ Lib.OthersKept 5 (some b) w w') :=
  (WriteStringW_any B b _ ⟨s.toArray⟩ w h (by simpa [Lib.byteCells_length, ByteArray.size] using hlen) hBw).mono fun e w' ⟨he, h1, h2, h3⟩ =>
    ⟨he, .inr (by rw [Lib.byteCells_append]; exact h1), h2, h3⟩

set_option maxHeartbeats 1000000 in
set_option maxRecDepth 100000 in
theorem StringW_any (B b : Nat) (l : List UInt8) (w : World) (h : Lib.IsBuilderF 67 5 B b (Lib.byteCells l) w) (h0 : l ≠ []) :
    Calls Tryz.prog 38 #[.pointer (some ⟨b, 0, none⟩)] w fun e w' => e = .returned (.string ⟨l.toArray⟩) ∧ Below B w w' := by
  obtain ⟨p, hp, hAt⟩ : ∃ p, (p = .pointer none ∨ p = .pointer (some ⟨b, 0, none⟩)) ∧ Lib.BuilderAtF 67 5 B b p (Lib.byteCells l) w := by
    rcases h with h | h
    · exact ⟨_, .inl rfl, h⟩
    · exact ⟨_, .inr rfl, h⟩
  obtain ⟨hB, v, hbk, hown, hne⟩ := hAt
  have hl0 : l.length ≠ 0 := by simpa using h0
  rw [Lib.byteCells_length] at hown
  obtain ⟨g, cap, cur, fz, rfl, hbg, hg, hfz, hnc, hcm, hcs, htake⟩ : ∃ g cap cur fz, v = .slice (some ⟨g, 0, none⟩) l.length cap ∧ B ≤ g ∧ w.heap[g]? = some (.cells cur 5 fz) ∧ fz.2 ≤ l.length * 1 ∧ l.length ≤ cap ∧ cap ≤ maxLen ∧ cur.size = cap * 1 ∧ cur.toList.take (l.length * 1) = Lib.byteCells l := by
    rcases hown.2 with ⟨_, hz⟩ | ⟨g, cap, cur, fz, hv, r⟩
    · exact absurd hz hl0
    · exact ⟨g, cap, cur, fz, hv, r⟩
  have c1 : w.drew.cell? ⟨b, 1, none⟩ = some (.slice (some ⟨g, 0, none⟩) l.length cap) := by
    have : w.drew.heap[b]? = some (.cells #[p, .slice (some ⟨g, 0, none⟩) l.length cap] 67 (0, 0)) := hbk
    rw [Lib.cell_of_heap this]; rfl
  have hSD : (Builtin.unsafeSliceData_ #[63] 102 #[.slice (some ⟨g, 0, none⟩) l.length cap]).run Tryz.prog w.drew = .ok (.pointer (some ⟨g, 0, none⟩)) w.drew :=
    Lib.run_unsafeSliceData_row _ _ _ _ _ _ (by omega)
  have hUS : (Builtin.unsafeString_ #[102, 3] 9 #[.pointer (some ⟨g, 0, none⟩), .int .i64 l.length]).run Tryz.prog w.drew = .ok (.string ⟨l.toArray⟩) (w.drew.freeze ⟨g, 0, none⟩ l.length) := by
    refine Lib.run_unsafeString_row w.drew 102 3 9 5 Tryz.underlying102 (by kernel_rfl) g cur.size (by have hg' : w.drew.heap[g]? = some (.cells cur 5 fz) := hg; simp [World.shape?, hg']) l h0 (by omega) (by unfold maxLen at hcm; omega) ?_
    intro j x hx
    have := hown.cells (g := g) rfl j (.int .u8 x.toNat) (by simp [Lib.byteCells, hx])
    exact this
  have mixed : Tryz.prog.follows .mixedOrders = true := by kernel_rfl
  go_enter Tryz.func38, Tryz.ntmps38
  go_wp2_with (fail)
  go_region_o
  all_goals (go_wp2_with (fail); go_ret; exact ⟨rfl, Lib.below_freeze (Below.drew (Below.refl B w)) (p := ⟨g, 0, none⟩) hbg _⟩)
end Go.Proofs.YtjajoiahgfafgaaGreatDoor
end

/- arch's writer: texts, nums. -/
section
set_option linter.unusedVariables false
namespace Go.Proofs.YtjajoiahgfafgaaGreatDoor
open Go.RowKit Plain

theorem below_others {e : TypeId} {b : Option Nat} {w W : World} (h : Below w.heap.size w W) : Lib.OthersKept e b w W := fun k o hk _ _ => (h.block k (Array.getElem?_eq_some_iff.1 hk).1).trans hk
/-- the writer behind a call: what it holds; older memory, and whatever is no row of bytes, is kept -/
def Wr (B b : Nat) (s : List UInt8) (w w' : World) : Prop := Lib.IsBuilderF 67 5 B b (Lib.byteCells s) w' ∧ Below B w w' ∧ Lib.OthersKept 5 (some b) w w'
theorem Wr.below {B b : Nat} {s : List UInt8} {w w1 w2 : World} (h : Wr B b s w w1) (hB : B ≤ w.heap.size) (hb : Below w1.heap.size w1 w2) : Wr B b s w w2 :=
  ⟨builder_below h.1 hb, h.2.1.trans (hb.mono (Nat.le_trans hB h.2.1.size)), h.2.2.trans (below_others hb)⟩
theorem Wr.trans {B b : Nat} {s t : List UInt8} {w w1 w2 : World} (h : Wr B b s w w1) (k : Wr B b t w1 w2) : Wr B b t w w2 := ⟨k.1, h.2.1.trans k.2.1, h.2.2.trans k.2.2⟩

set_option maxHeartbeats 1000000 in
set_option maxRecDepth 100000 in
theorem texts_any (B b : Nat) (s : List UInt8) (l : List (List UInt8)) (A : Option Addr) (c : Nat) (w : World) (hbl : Lib.IsBuilderF 67 5 B b (Lib.byteCells s) w) (hB : B ≤ w.heap.size) (hA : ∀ W, Lib.OthersKept 5 (some b) w W → Reads W 1 A l.length (strs l))
    (hl : ∀ t ∈ l, t.length ≤ 140737488355328) (hn : l.length ≤ 1048576) (hs : s.length + (textsB l).length ≤ 140737488355328) :
    Calls Tryz.prog 35 #[.pointer (some ⟨b, 0, none⟩), .slice A l.length c] w fun e w' => e = .returned (.tuple #[]) ∧ Wr B b (s ++ textsB l) w w' := by
  have HA := Lib.hid hA
  have HL := Lib.hid hl
  have HS := Lib.hid hs
  have HW0 : Hid (Wr B b (s ++ textsB (l.take 0)) w w) := Lib.hid ⟨by simpa [textsB] using hbl, Below.refl _ _, Lib.OthersKept.refl _ _ _⟩
  clear hA hl hs hbl
  go_enter Tryz.func35, Tryz.ntmps35
  go_wp2_with (fail)
  go_loopw [8] (fun t8 W => ∃ k : Nat, k ≤ l.length ∧ t8 = .int .i64 k ∧ Hid (Wr B b (s ++ textsB (l.take k)) w W)) (fun t8 _ => l.length - (intOf t8).toNat)
  case atStart => exact ⟨0, by omega, rfl, HW0⟩
  case round =>
    clear HW0
    obtain ⟨k, hk, rfl, HW⟩ := hrel
    have i0 : (0 : Int) ≤ k := by omega
    have e1 : IntKind.i64.wrap ((k : Int) + 1) = (k : Int) + 1 := IntWalk.i64_in _ (by omega)
    by_cases hlt : k < l.length
    · have i1 : (k : Int) < l.length := by omega
      obtain ⟨ad, rfl, hcell⟩ := (HA.out _ HW.out.2.2).str_at hlt
      have hsn := textsB_snoc hlt
      have hlen : (textsB (l.take (k + 1))).length ≤ (textsB l).length := by
        have h1 : textsB l = textsB (l.take (k + 1)) ++ textsB (l.drop (k + 1)) := by
          unfold textsB; rw [← List.flatMap_append, List.take_append_drop]
        rw [h1, List.length_append]; omega
      have hx := HL.out _ (List.getElem_mem hlt)
      generalize l[k] = x at *
      have HSN := Lib.hid hsn
      have HCALL := Lib.hid (fun W => CText_any x W hx)
      have hlx : (s ++ textsB (l.take k)).length + (textB x).length ≤ 140737488355328 := by
        have := HS.out
        rw [hsn, List.length_append] at hlen
        rw [List.length_append]; omega
      have HLX := Lib.hid hlx
      clear hsn hlen hx hlx
      generalize textB x = y at *
      go_wp2_with (fail)
      refine wp_region_quiet_tail 5 (by kernel_rfl) (by kernel_rfl) ?_
      simp only [List.take, List.drop]
      iterate 5 (go_big_quiet_step ((intro hW; go_at_call 64; exact Ret.quiet hW (HCALL.out _))))
      refine wpQuiet_nil ?_
      intro W hW
      have HW2 := Lib.hid (HW.out.below hB hW)
      clear hW
      go_wp2_with (fail)
      refine (WriteStringW_list B b (s ++ textsB (l.take k)) y _ HW2.out.1 HLX.out (Nat.le_trans hB HW2.out.2.1.size)).mono ?_
      rintro e w2 ⟨rfl, h1, h2, h3⟩
      have HW3 : Hid (Wr B b (s ++ textsB (l.take (k + 1))) w w2) := Lib.hid (by rw [HSN.out, ← List.append_assoc]; exact HW2.out.trans ⟨h1, h2, h3⟩)
      clear h1 h2 h3
      go_wp2_with (fail)
      go_roundw
      case rel => exact ⟨k + 1, by omega, by go_num, HW3⟩
      case measure => simp [intOf]; omega
    · obtain rfl : k = l.length := by omega
      have HW3 : Hid (Wr B b (s ++ textsB l) w wr) := by have := HW; rwa [List.take_of_length_le (Nat.le_refl _)] at this
      go_wp2_with (fail)
      go_end0
      exact ⟨rfl, HW3.out⟩

theorem num_int (n : Int) (w : World) (h0 : 0 ≤ n) (h : n < 9223372036854775808) : Calls Tryz.prog 65 #[.int .i64 n] w (Ret w (.string ⟨(numB n.toNat).toArray⟩)) := by
  obtain ⟨k, rfl⟩ := Int.eq_ofNat_of_zero_le h0
  exact Num_any k w (by omega)

set_option maxHeartbeats 1000000 in
set_option maxRecDepth 100000 in
theorem nums_any (B b : Nat) (s : List UInt8) (l : List Int) (A : Option Addr) (c : Nat) (w : World) (hbl : Lib.IsBuilderF 67 5 B b (Lib.byteCells s) w) (hB : B ≤ w.heap.size) (hA : ∀ W, Lib.OthersKept 5 (some b) w W → Reads W 1 A l.length (ints l))
    (hl : ∀ t ∈ l, 0 ≤ t ∧ t < 9223372036854775808) (hn : l.length ≤ 1048576) (hs : s.length + (numsB l).length ≤ 140737488355328) :
    Calls Tryz.prog 36 #[.pointer (some ⟨b, 0, none⟩), .slice A l.length c] w fun e w' => e = .returned (.tuple #[]) ∧ Wr B b (s ++ numsB l) w w' := by
  have HA := Lib.hid hA
  have HL := Lib.hid hl
  have HS := Lib.hid hs
  have HW0 : Hid (Wr B b (s ++ numsB (l.take 0)) w w) := Lib.hid ⟨by simpa [numsB] using hbl, Below.refl _ _, Lib.OthersKept.refl _ _ _⟩
  clear hA hl hs hbl
  go_enter Tryz.func36, Tryz.ntmps36
  go_wp2_with (fail)
  go_loopw [8] (fun t8 W => ∃ k : Nat, k ≤ l.length ∧ t8 = .int .i64 k ∧ Hid (Wr B b (s ++ numsB (l.take k)) w W)) (fun t8 _ => l.length - (intOf t8).toNat)
  case atStart => exact ⟨0, by omega, rfl, HW0⟩
  case round =>
    clear HW0
    obtain ⟨k, hk, rfl, HW⟩ := hrel
    have i0 : (0 : Int) ≤ k := by omega
    have e1 : IntKind.i64.wrap ((k : Int) + 1) = (k : Int) + 1 := IntWalk.i64_in _ (by omega)
    by_cases hlt : k < l.length
    · have i1 : (k : Int) < l.length := by omega
      obtain ⟨ad, rfl, hcell⟩ := (HA.out _ HW.out.2.2).int_at hlt
      have hsn := numsB_snoc hlt
      have hlen : (numsB (l.take (k + 1))).length ≤ (numsB l).length := by
        have h1 : numsB l = numsB (l.take (k + 1)) ++ numsB (l.drop (k + 1)) := by
          unfold numsB; rw [← List.flatMap_append, List.take_append_drop]
        rw [h1, List.length_append]; omega
      have hx := HL.out _ (List.getElem_mem hlt)
      generalize l[k] = x at *
      rw [if_pos hx.1] at hsn
      have HSN := Lib.hid hsn
      have HCALL := Lib.hid (fun W => num_int x W hx.1 hx.2)
      have hlx : (s ++ numsB (l.take k)).length + (numB x.toNat).length ≤ 140737488355328 := by
        have := HS.out
        rw [hsn, List.length_append] at hlen
        rw [List.length_append]; omega
      have HLX := Lib.hid hlx
      clear hsn hlen hx hlx
      generalize numB x.toNat = y at *
      go_wp2_with (fail)
      refine wp_region_quiet_tail 5 (by kernel_rfl) (by kernel_rfl) ?_
      simp only [List.take, List.drop]
      iterate 5 (go_big_quiet_step ((intro hW; go_at_call 65; exact Ret.quiet hW (HCALL.out _))))
      refine wpQuiet_nil ?_
      intro W hW
      have HW2 := Lib.hid (HW.out.below hB hW)
      clear hW
      go_wp2_with (fail)
      refine (WriteStringW_list B b (s ++ numsB (l.take k)) y _ HW2.out.1 HLX.out (Nat.le_trans hB HW2.out.2.1.size)).mono ?_
      rintro e w2 ⟨rfl, h1, h2, h3⟩
      have HW3 : Hid (Wr B b (s ++ numsB (l.take (k + 1))) w w2) := Lib.hid (by rw [HSN.out, ← List.append_assoc]; exact HW2.out.trans ⟨h1, h2, h3⟩)
      clear h1 h2 h3
      go_wp2_with (fail)
      go_roundw
      case rel => exact ⟨k + 1, by omega, by go_num, HW3⟩
      case measure => simp [intOf]; omega
    · obtain rfl : k = l.length := by omega
      have HW3 : Hid (Wr B b (s ++ numsB l) w wr) := by have := HW; rwa [List.take_of_length_le (Nat.le_refl _)] at this
      go_wp2_with (fail)
      go_end0
      exact ⟨rfl, HW3.out⟩
end Go.Proofs.YtjajoiahgfafgaaGreatDoor
end


section
namespace Go.Proofs.YtjajoiahgfafgaaGreatDoor
open Go.RowKit Plain

set_option maxHeartbeats 400000 in
theorem Crc_any (s : List UInt8) (w : World) (hs : s.length ≤ 9223372036854775807) :
    Calls Tryz.prog 67 #[.string ⟨s.toArray⟩] w (Ret w (.int .u32 (crc s))) := by
  go_enter Tryz.func67, Tryz.ntmps67
  go_wp2_with (fail)
  go_loopw [4, 5, 8, 13] (fun t4 t5 t8 t13 W => ∃ (k : Nat) (C : Array Value), k ≤ 16 ∧ t8 = .int .i64 k ∧ W = w.alloc (.cells C 122) ∧ C.size = 16 ∧ ∀ j, j < k → C[j]? = some (.int .u32 (bits1 4 j : Nat))) (fun _ _ t8 _ _ => 16 - (intOf t8).toNat)
  case atStart => exact ⟨0, _, by omega, rfl, rfl, rfl, fun j h => by omega⟩
  case round =>
    obtain ⟨k, C, hk, rfl, rfl, hC, hT⟩ := hrel
    by_cases hlt : k < 16
    · have HT := Lib.hid hT
      clear hT
      go_wp2_with (fail)
      go_loop [5, 13] (fun t5 t13 => ∃ j : Nat, j ≤ 4 ∧ t13 = .int .i64 j ∧ t5 = .int .u32 (bits1 j k : Nat)) (fun _ t13 => 4 - (intOf t13).toNat)
      case atStart => exact ⟨0, by omega, rfl, by simp [bits1]⟩
      case round =>
        obtain ⟨j, hj, rfl, rfl⟩ := hrel
        have hb := bits1_lt (n := j) (v := k) (by omega)
        by_cases hlt : j < 4
        · generalize hx : bits1 j k = x at *
          have HX := Lib.hid hx
          clear hx
          go_wp2_with (fail)
          go_round
          case rel => exact ⟨j + 1, by omega, by go_num, by rw [bit1_go x hb, ← HX.out]; rfl⟩
          case measure => simp [intOf]; omega
        · obtain rfl : j = 4 := by omega
          go_wp2_with (fail)
          go_roundw
          case rel =>
            refine ⟨k + 1, _, by omega, by go_num, rfl, by simp [hC], fun j hj => ?_⟩
            by_cases hjk : j = k
            · subst hjk
              simp [hC, hlt]
            · rw [Array.getElem?_setIfInBounds, if_neg (by omega)]
              exact HT.out j (by omega)
          case measure => simp [intOf]; omega
    · obtain rfl : k = 16 := by omega
      have HT := Lib.hid hT
      clear hT
      go_wp2_with (fail)
      go_loop [6, 7, 29] (fun t6 t7 t29 => ∃ i : Nat, i ≤ s.length ∧ t29 = .int .i64 i ∧ t6 = .int .u32 (crcRun (s.take i) : Nat)) (fun _ _ t29 => s.length - (intOf t29).toNat)
      case atStart => exact ⟨0, by omega, rfl, rfl⟩
      case round =>
        obtain ⟨i, hi, rfl, rfl⟩ := hrel
        have hv := crcRun_lt (s.take i)
        by_cases hlt : i < s.length
        · have hstep : crcRun (s.take (i + 1)) = nib (nib (crcRun (s.take i) ^^^ s[i].toNat)) := by
            unfold crcRun
            rw [List.take_succ_eq_append_getElem hlt, List.foldl_append]
            simp [crcB_nib]
          have hc : s[i].toNat < 256 := s[i].toNat_lt
          obtain ⟨x1, m1, x2, m2, x3, hx1, hm1, hx2, hm2, e1, e2, e3, e4, e5, hx3⟩ := nib_go (crcRun (s.take i)) s[i].toNat hv hc
          rw [← hx3] at hstep
          have HS := Lib.hid hstep
          clear hstep hx3
          generalize crcRun (s.take i) = v at *
          generalize hci : s[i] = c at *
          have c1 : (w.alloc (.cells C 122)).cell? ⟨w.heap.size, m1, none⟩ = some (.int .u32 (bits1 4 m1 : Nat)) := by
            rw [cell_of_row _ _ _ C 122 (0, 0) (heap_alloc_new w _)]; exact HT.out m1 hm1
          have c2 : (w.alloc (.cells C 122)).cell? ⟨w.heap.size, m2, none⟩ = some (.int .u32 (bits1 4 m2 : Nat)) := by
            rw [cell_of_row _ _ _ C 122 (0, 0) (heap_alloc_new w _)]; exact HT.out m2 hm2
          go_wp2_with (fail)
          go_round
          case rel => exact ⟨i + 1, by omega, by go_num, by rw [HS.out]⟩
          case measure => simp [intOf]; omega
        · obtain rfl : i = s.length := by omega
          go_wp2_with (fail)
          go_ret
          refine ⟨?_, (Below.refl _ _).alloc (Nat.le_refl _) _⟩
          have h := not_go (crcRun s) (crcRun_lt s)
          simp only [Array.getD_eq_getD_getElem?, List.getElem?_toArray, List.getElem?_cons_succ, List.getElem?_cons_zero, Option.getD_some, h]
          rfl

end Go.Proofs.YtjajoiahgfafgaaGreatDoor
end


section
namespace Go.Proofs.YtjajoiahgfafgaaGreatDoor
open Go.RowKit Plain

set_option maxHeartbeats 400000 in
theorem four_any (n : Nat) (w : World) (h1 : n < 4294967296) :
    Calls Tryz.prog 66 #[.int .u32 n] w (Ret w (.string ⟨(four n).toArray⟩)) := by
  have hk := fun w xs n cap hn m => run_convert_laid (P := Tryz.prog) w 63 5 9 Tryz.underlying63 Tryz.underlying5 Tryz.underlying9 xs n cap hn m
  have hc := hk w [n / 16777216, n / 65536 % 256, n / 256 % 256, n % 256] 4 4 rfl (0, 0)
  simp only [List.map_cons, List.map_nil] at hc
  clear hk
  go_enter Tryz.func66, Tryz.ntmps66
  go_wp2_with (fail)
  go_ret
  exact ⟨rfl, (Below.refl _ _).alloc (Nat.le_refl _) _⟩

set_option maxHeartbeats 400000 in
theorem four_ref (n : Nat) (w : World) (h1 : n < 4294967296) :
    Calls Tryz.prog 68 #[.int .u32 n] w (Ret w (.string ⟨(four n).toArray⟩)) := by
  have hk := fun w xs n cap hn m => run_convert_laid (P := Tryz.prog) w 63 5 9 Tryz.underlying63 Tryz.underlying5 Tryz.underlying9 xs n cap hn m
  have hc := hk w [n / 16777216, n / 65536 % 256, n / 256 % 256, n % 256] 4 4 rfl (0, 0)
  simp only [List.map_cons, List.map_nil] at hc
  clear hk
  go_enter Tryz.func68, Tryz.ntmps68
  go_wp2_with (fail)
  go_ret
  exact ⟨rfl, (Below.refl _ _).alloc (Nat.le_refl _) _⟩

set_option maxHeartbeats 400000 in
theorem recNumber_any (s : List UInt8) (w : World) (h : 4 ≤ s.length) :
    Calls Tryz.prog 88 #[.string ⟨s.toArray⟩] w (Ret w (.int .u32 (num s : Nat))) := by
  obtain ⟨a, b, c, d, r, rfl⟩ := four_cases h
  have h0 : 0 < (a :: b :: c :: d :: r).length := by omega
  have h1 : (1 : Int) < (a :: b :: c :: d :: r).length := by omega
  have h2 : (2 : Int) < (a :: b :: c :: d :: r).length := by omega
  have h3 : (3 : Int) < (a :: b :: c :: d :: r).length := by omega
  have ha : (a.toNat : Int) < 256 := by have := a.toNat_lt; omega
  have hb : (b.toNat : Int) < 256 := by have := b.toNat_lt; omega
  have hc : (c.toNat : Int) < 256 := by have := c.toNat_lt; omega
  have hd : (d.toNat : Int) < 256 := by have := d.toNat_lt; omega
  have E := num_go a.toNat b.toNat c.toNat d.toNat (by omega) (by omega) (by omega) (by omega)
  go_enter Tryz.func88, Tryz.ntmps88
  go_wp2_with (fail)
  refine wp_region_below (by kernel_rfl) (by kernel_rfl) ?_
  repeat (go_big_quiet_step (fail))
  refine wpQuiet_nil ?_
  intro W1 hW1
  go_wp2_with (fail)
  go_ret
  exact ⟨rfl, hW1⟩

theorem num_drop {s : List UInt8} {i : Nat} (h0 : i < s.length) (n1 : i + 1 < s.length) (n2 : i + 2 < s.length) (n3 : i + 3 < s.length) :
    num (s.drop i) = s[i].toNat * 16777216 + s[i + 1].toNat * 65536 + s[i + 2].toNat * 256 + s[i + 3].toNat := by
  rw [List.drop_eq_getElem_cons h0, List.drop_eq_getElem_cons n1, List.drop_eq_getElem_cons n2, List.drop_eq_getElem_cons n3]; rfl

set_option maxHeartbeats 400000 in
theorem number_ref (s : List UInt8) (i : Nat) (w : World) (h : i + 4 ≤ s.length) (hs : s.length ≤ 9223372036854775807) :
    Calls Tryz.prog 90 #[.string ⟨s.toArray⟩, .int .i64 i] w (Ret w (.int .u32 (num (s.drop i) : Nat))) := by
  have h0 : i < s.length := by omega
  have h1 : (i : Int) + 1 < s.length := by omega
  have h2 : (i : Int) + 2 < s.length := by omega
  have h3 : (i : Int) + 3 < s.length := by omega
  have k1 : IntKind.i64.wrap ((i : Int) + 1) = (i : Int) + 1 := IntWalk.i64_in _ (by omega)
  have k2 : IntKind.i64.wrap ((i : Int) + 2) = (i : Int) + 2 := IntWalk.i64_in _ (by omega)
  have k3 : IntKind.i64.wrap ((i : Int) + 3) = (i : Int) + 3 := IntWalk.i64_in _ (by omega)
  have z1 : (0 : Int) ≤ (i : Int) + 1 := by omega
  have z2 : (0 : Int) ≤ (i : Int) + 2 := by omega
  have z3 : (0 : Int) ≤ (i : Int) + 3 := by omega
  have E := Lib.hid (num_drop h0 (by omega) (by omega) (by omega))
  have ha : (s[i].toNat : Int) < 256 := by have := s[i].toNat_lt; omega
  have hb : (s[i + 1].toNat : Int) < 256 := by have := s[i + 1].toNat_lt; omega
  have hc : (s[i + 2].toNat : Int) < 256 := by have := s[i + 2].toNat_lt; omega
  have hd : (s[i + 3].toNat : Int) < 256 := by have := s[i + 3].toNat_lt; omega
  go_enter Tryz.func90, Tryz.ntmps90
  go_wp2_with (fail)
  refine wp_region_below (by kernel_rfl) (by kernel_rfl) ?_
  repeat (go_big_quiet_step (fail))
  refine wpQuiet_nil ?_
  intro W1 hW1
  go_wp2_with (fail)
  go_ret
  refine ⟨?_, hW1⟩
  rw [E.out]
  simp only [Array.getD_eq_getD_getElem?, List.getElem?_toArray, List.getElem?_cons_succ, List.getElem?_cons_zero, Option.getD_some]
  exact ret_int (by omega)
end Go.Proofs.YtjajoiahgfafgaaGreatDoor
end


section
namespace Go.Proofs.YtjajoiahgfafgaaGreatDoor
open Go.RowKit Plain

set_option maxHeartbeats 400000 in
theorem Pack_any (p : List UInt8) (w : World) (hp : p.length ≤ 1048576) :
    Calls Tryz.prog 37 #[.string ⟨p.toArray⟩] w (Ret w (.tuple #[.string ⟨(record p).toArray⟩, .int .i64 0])) := by
  have hl := crc_lt (four p.length ++ p)
  have hf : (four p.length).length = 4 := rfl
  have hf2 : (four (crc (four p.length ++ p))).length = 4 := rfl
  go_enter Tryz.func37, Tryz.ntmps37
  go_wp2_with (fail)
  refine (Ret.quiet (Below.refl _ _) (four_any _ _ (by omega))).mono ?_
  rintro e w1 ⟨rfl, hb1⟩
  go_wp2_with (fail)
  refine (Ret.quiet (hb1) (Crc_any _ _ (by simp; omega))).mono ?_
  rintro e w2 ⟨rfl, hb2⟩
  go_wp2_with (fail)
  refine (Ret.quiet (hb2) (four_any _ _ hl)).mono ?_
  rintro e w3 ⟨rfl, hb3⟩
  go_wp2_with (fail)
  go_ret2
  refine ⟨?_, hb3⟩
  simp [record]
set_option maxHeartbeats 400000 in
theorem Pack_more (p : List UInt8) (w : World) (hs : p.length ≤ 9223372036854775807) (hp : 1048576 < p.length) :
    Calls Tryz.prog 37 #[.string ⟨p.toArray⟩] w (Ret w (.tuple #[.string ⟨#[]⟩, .int .i64 32])) := by
  go_enter Tryz.func37, Tryz.ntmps37
  go_wp2_with (fail)
  go_ret2
  exact ⟨rfl, Below.refl _ _⟩

theorem Pack_all (p : List UInt8) (w : World) (hs : p.length ≤ 9223372036854775807) :
    Calls Tryz.prog 37 #[.string ⟨p.toArray⟩] w (Ret w (.tuple #[.string ⟨(pack p).1.toArray⟩, .int .i64 (pack p).2])) := by
  rcases Nat.lt_or_ge 1048576 p.length with h | h
  · rw [pack_more h]; exact Pack_more p w hs h
  · rw [pack_ok h]; exact Pack_any p w h

set_option maxHeartbeats 400000 in
theorem Next_any (s : List UInt8) (w : World)  (hs : s.length ≤ 9223372036854775807) :
    Calls Tryz.prog 55 #[.string ⟨s.toArray⟩] w (Ret w (.tuple #[.string ⟨(next s).1.toArray⟩, .string ⟨(next s).2.1.toArray⟩, .int .i64 (next s).2.2])) := by
  have hn := num_lt s
  go_enter Tryz.func55, Tryz.ntmps55
  go_wp2_with (fail)
  · go_ret3
    refine ⟨?_, Below.refl _ _⟩
    rw [next_short (by omega)]
    rfl
  refine (Ret.quiet (Below.refl _ _) (recNumber_any _ _ (by omega))).mono ?_
  rintro e w1 ⟨rfl, hb1⟩
  go_wp2_with (fail)
  · go_ret3
    refine ⟨?_, hb1⟩
    rw [next_more (by omega) (by omega)]
    rfl
  · go_ret3
    refine ⟨?_, hb1⟩
    rw [next_cut (by omega) (by omega) (by omega)]
    rfl
  have k1 : IntKind.u32.wrap (8 + (num s : Int)) = 8 + (num s : Int) := by rw [IntKind.wrap_u32]; omega
  have z1 : (0 : Int) ≤ 8 + (num s : Int) := by omega
  have l1 : (List.take 4 s ++ List.take (num s) (List.drop 8 s)).length = 4 + num s := by simp; omega
  have l2 : (4 : Int) ≤ s.length := by omega
  have l3 : 8 + num s - 8 = num s := by omega
  refine wp_region_below (by kernel_rfl) (by kernel_rfl) ?_
  repeat (go_big_quiet_step (fail))
  refine wpQuiet_nil ?_
  intro W2 hW2
  go_wp2_with (fail)
  by_cases h3 : num (s.drop 4) = crc (s.take 4 ++ (s.drop 8).take (num s))
  · have hB : ((num (s.drop 4) : Int) != (crc (s.take 4 ++ (s.drop 8).take (num s)) : Int)) = false := by rw [h3]; simp
    have H3 := Lib.hid h3
    clear h3
    refine wp_region_below (by kernel_rfl) (by kernel_rfl) ?_
    repeat (go_big_quiet_step ((intro hW; first | (go_at_call 88; exact Ret.quiet hW (recNumber_any _ _ (by simp; omega))) | (go_at_call 67; exact Ret.quiet hW (Crc_any _ _ (by simp; omega))))))
    refine wpQuiet_nil ?_
    intro W3 hW3
    go_wp2_with (fail)
    go_ret3
    refine ⟨?_, (hb1.trans (hW2.mono hb1.size)).trans (hW3.mono (Nat.le_trans hb1.size hW2.size))⟩
    rw [next_ok (by omega) (by omega) (by omega) H3.out]
    simp only [Array.getD_eq_getD_getElem?, List.getElem?_toArray, List.getElem?_cons_succ, List.getElem?_cons_zero, Option.getD_some, Nat.add_sub_cancel_left]
    rfl
  · have hB : ((num (s.drop 4) : Int) != (crc (s.take 4 ++ (s.drop 8).take (num s)) : Int)) = true := by simpa using (by omega : (num (s.drop 4) : Int) ≠ (crc (s.take 4 ++ (s.drop 8).take (num s)) : Int))
    have H3 := Lib.hid h3
    clear h3
    refine wp_region_below (by kernel_rfl) (by kernel_rfl) ?_
    repeat (go_big_quiet_step ((intro hW; first | (go_at_call 88; exact Ret.quiet hW (recNumber_any _ _ (by simp; omega))) | (go_at_call 67; exact Ret.quiet hW (Crc_any _ _ (by simp; omega))))))
    refine wpQuiet_nil ?_
    intro W3 hW3
    go_wp2_with (fail)
    go_ret3
    refine ⟨?_, (hb1.trans (hW2.mono hb1.size)).trans (hW3.mono (Nat.le_trans hb1.size hW2.size))⟩
    rw [next_sum (by omega) (by omega) (by omega) H3.out]
    rfl
end Go.Proofs.YtjajoiahgfafgaaGreatDoor
end

/- arch.Encode. -/
section
set_option linter.unusedVariables false
namespace Go.Proofs.YtjajoiahgfafgaaGreatDoor
open Go.RowKit Plain

namespace Plain
theorem numsB_two {x y : Int} (hx : 0 ≤ x) (hy : 0 ≤ y) : numsB [x, y] = numI x ++ numI y := by simp [numsB, numI, hx, hy]
theorem numsB_three {x y z : Int} (hx : 0 ≤ x) (hy : 0 ≤ y) (hz : 0 ≤ z) : numsB [x, y, z] = numI x ++ (numI y ++ numI z) := by simp [numsB, numI, hx, hy, hz]
theorem textsB_one (x : List UInt8) : textsB [x] = textB x := by simp [textsB]
theorem textsB_two (x y : List UInt8) : textsB [x, y] = textB x ++ textB y := by simp [textsB]
def upA (a : Arc) (k : Nat) : List UInt8 := headB a ++ ((a.tree.zip a.stamps).take k).flatMap nodeB
theorem upA_zero (a : Arc) : upA a 0 = headB a := by simp [upA]
theorem upA_all {a : Arc} (h : a.stamps.length = a.tree.length) : upA a a.tree.length = payA a := by
  unfold upA payA
  rw [List.take_of_length_le (by rw [List.length_zip]; omega)]
theorem upA_next {a : Arc} {k : Nat} (h : a.stamps.length = a.tree.length) (hk : k < a.tree.length) :
    upA a (k + 1) = ((upA a k ++ textB (a.tree.getD k default).path) ++ (numI (a.tree.getD k default).kind ++ numI (a.tree.getD k default).mode) ++ textB (a.tree.getD k default).data) ++ (numI (a.stamps.getD k default).ino ++ (numI (a.stamps.getD k default).size ++ numI (a.stamps.getD k default).time)) := by
  unfold upA
  rw [List.take_succ_eq_append_getElem (by rw [List.length_zip]; omega), List.flatMap_append, List.getElem_zip]
  rw [List.getD_eq_getElem?_getD, List.getElem?_eq_getElem hk, Option.getD_some, List.getD_eq_getElem?_getD, List.getElem?_eq_getElem (by omega), Option.getD_some]
  simp [nodeB]
theorem upA_le {a : Arc} (h : a.stamps.length = a.tree.length) (k : Nat) : (upA a k).length ≤ (payA a).length := by
  have h1 : payA a = upA a k ++ ((a.tree.zip a.stamps).drop k).flatMap nodeB := by
    unfold payA upA
    rw [List.append_assoc, ← List.flatMap_append, List.take_append_drop]
  rw [h1, List.length_append]; omega
end Plain
/-- a block that is no row of bytes is kept -/
theorem Wr.block {B b : Nat} {s : List UInt8} {w w' : World} (h : Wr B b s w w') {k : Nat} {cs : Array Value} {t : TypeId} {fz : Nat × Nat} (hk : w.heap[k]? = some (.cells cs t fz)) (hb : k ≠ b) (ht : t ≠ 5) : w'.heap[k]? = some (.cells cs t fz) :=
  h.2.2 k _ hk (by simpa using hb) (fun c z e => ht (by injection e))
theorem reads_kept {W W' : World} {b g : Nat} {vs : List Value} {t : TypeId} (hk : W.heap[g]? = some (.cells vs.toArray t (0, 0))) (hb : g ≠ b) (ht : t ≠ 5) (h : Lib.OthersKept 5 (some b) W W') (n : Nat) (hn : n = vs.length) : Reads W' 1 (some ⟨g, 0, none⟩) n vs := by
  have h1 := h g _ hk (by simpa using hb) (fun c z e => ht (by injection e))
  refine ⟨by omega, fun _ => ⟨_, rfl, fun j u hu => ?_⟩⟩
  have e : (⟨g, 0, none⟩ : Addr).add j = ⟨g, j, none⟩ := by unfold Addr.add; split <;> simp_all
  rw [e, cell_of_row _ _ j _ _ _ h1]
  simpa using hu
/-- texts of a slice that has just been built -/
theorem texts_new (b : Nat) (s : List UInt8) (l : List (List UInt8)) (w0 w : World) (hw : Wr b b s w0 w) (hb0 : b < w0.heap.size) (hl : ∀ t ∈ l, t.length ≤ 1048576) (hn : l.length ≤ 16) (hs : s.length ≤ 1048576) :
    Calls Tryz.prog 35 #[.pointer (some ⟨b, 0, none⟩), .slice (some ⟨w.heap.size, 0, none⟩) l.length l.length] (w.alloc (.cells (strs l).toArray 9)) fun e w' => e = .returned (.tuple #[]) ∧ Wr b b (s ++ textsB l) w0 w' ∧ Lib.OthersKept 5 (some b) w w' := by
  have hlt : b < w.heap.size := Nat.lt_of_lt_of_le hb0 hw.2.1.size
  have hal := (Below.refl w.heap.size w).alloc (Nat.le_refl _) (.cells (strs l).toArray 9)
  have hle := textsB_le l
  have hwt : wt l ≤ 1048577 * l.length := by
    clear hle hn
    induction l with
    | nil => simp [wt]
    | cons x r ih =>
      have h1 := hl x (List.mem_cons_self ..)
      have h2 := ih (fun t ht => hl t (List.mem_cons_of_mem _ ht)) ((Below.refl w.heap.size w).alloc (Nat.le_refl _) _)
      simp only [wt, List.map_cons, List.sum_cons, List.length_cons] at h2 ⊢
      omega
  refine (texts_any b b s l (some ⟨w.heap.size, 0, none⟩) l.length _ (builder_below hw.1 hal) (by simp; omega) (fun W hW => reads_kept (heap_alloc_new _ _) (by omega) (by decide) hW _ (by simp [strs])) (fun t ht => by have := hl t ht; omega) (by omega) (by omega)).mono ?_
  rintro e w' ⟨rfl, h⟩
  exact ⟨rfl, (hw.below (by omega) hal).trans h, (below_others hal).trans h.2.2⟩
theorem nums_new (b : Nat) (s : List UInt8) (l : List Int) (w0 w : World) (hw : Wr b b s w0 w) (hb0 : b < w0.heap.size) (hl : ∀ t ∈ l, 0 ≤ t ∧ t < 9223372036854775808) (hn : l.length ≤ 16) (hs : s.length ≤ 1048576) :
    Calls Tryz.prog 36 #[.pointer (some ⟨b, 0, none⟩), .slice (some ⟨w.heap.size, 0, none⟩) l.length l.length] (w.alloc (.cells (ints l).toArray 3)) fun e w' => e = .returned (.tuple #[]) ∧ Wr b b (s ++ numsB l) w0 w' ∧ Lib.OthersKept 5 (some b) w w' := by
  have hlt : b < w.heap.size := Nat.lt_of_lt_of_le hb0 hw.2.1.size
  have hal := (Below.refl w.heap.size w).alloc (Nat.le_refl _) (.cells (ints l).toArray 3)
  have hle := numsB_le l
  refine (nums_any b b s l (some ⟨w.heap.size, 0, none⟩) l.length _ (builder_below hw.1 hal) (by simp; omega) (fun W hW => reads_kept (heap_alloc_new _ _) (by omega) (by decide) hW _ (by simp [ints])) hl (by omega) (by omega)).mono ?_
  rintro e w' ⟨rfl, h⟩
  exact ⟨rfl, (hw.below (by omega) hal).trans h, (below_others hal).trans h.2.2⟩

set_option maxHeartbeats 2000000 in
set_option maxRecDepth 100000 in
theorem encode_any (a : Arc) (A : Option Addr) (c : Nat) (B : Option Addr) (d : Nat) (m : Int) (w : World) (hL : Laid w m) (hA : ArAt a A c B d w) (hsm : Small a) :
    Calls Tryz.prog 11 #[.agg (arV a A c B d).toArray] w (Ret w (.tuple #[.string ⟨(encodeA a).1.toArray⟩, .int .i64 (encodeA a).2])) := by
  have HCK := Lib.hid (fun W (h : Below w.heap.size w W) => acheck_any a A c B d m W (hL.below h) (hA.below h))
  obtain ⟨w1, hw1⟩ : ∃ w1, w.alloc (.cells (arV a A c B d).toArray 26) = w1 := ⟨_, rfl⟩
  have HW1 := Lib.hid hw1
  have HB1 := Lib.hid (show Below w.heap.size w w1 by rw [← hw1]; exact (Below.refl w.heap.size w).alloc (Nat.le_refl _) _)
  have HS1 := Lib.hid (show w1.heap.size = w.heap.size + 1 by rw [← hw1]; simp)
  have HRA := Lib.hid (show w1.heap[w.heap.size]? = some (.cells (arV a A c B d).toArray 26 (0, 0)) by rw [← hw1]; exact heap_alloc_new _ _)
  clear hw1 hL
  cases hck : checkA a with
  | false =>
    have HEN := Lib.hid (show encodeA a = ([], 90) by unfold encodeA; rw [hck]; rfl)
    rw [HEN.out]
    rw [hck] at HCK
    have H1 : Hid (∀ W, Below w.heap.size w W → Calls Tryz.prog 13 #[.agg (arV a A c B d).toArray] W (Ret W (.int .i64 90))) := HCK
    clear hck HCK hA
    unfold arV at *
    go_enter Tryz.func11, Tryz.ntmps11
    go_upto_region 1 with (fail)
    rw [HW1.out]
    have ta0 := cell_of_row w1 _ 0 _ _ _ HRA.out; have ta1 := cell_of_row w1 _ 1 _ _ _ HRA.out; have ta2 := cell_of_row w1 _ 2 _ _ _ HRA.out; have ta3 := cell_of_row w1 _ 3 _ _ _ HRA.out
    go_wp2_with (fail)
    refine (H1.out _ HB1.out).mono ?_
    rintro e w2 ⟨rfl, hw2⟩
    go_wp2_with (fail)
    go_ret2
    exact ⟨rfl, HB1.out.trans (hw2.mono HB1.out.size)⟩
  | true =>
    have HEN := Lib.hid (show encodeA a = (record (payA a), 0) by unfold encodeA; rw [hck]; rfl)
    rw [HEN.out]
    rw [hck] at HCK
    have H1 : Hid (∀ W, Below w.heap.size w W → Calls Tryz.prog 13 #[.agg (arV a A c B d).toArray] W (Ret W (.int .i64 0))) := HCK
    have HKP := Lib.hid (checkA_parts hck)
    have HFT := Lib.hid (zip_fits hck hsm)
    have HSM := Lib.hid hsm
    have HPL := Lib.hid (payA_length hck)
    have HPK := Lib.hid (fun W => Pack_any (payA a) W (payA_length hck))
    have HAA := Lib.hid (fun W (h : Below w.heap.size w W) => hA.below h)
    have htl := (bare_bounds (checkA_parts hck).2.2.2.1).1
    have HTL := Lib.hid htl
    clear hck HCK hA
    unfold arV at *
    go_enter Tryz.func11, Tryz.ntmps11
    go_upto_region 1 with (fail)
    rw [HW1.out]
    have ta0 := cell_of_row w1 _ 0 _ _ _ HRA.out; have ta1 := cell_of_row w1 _ 1 _ _ _ HRA.out; have ta2 := cell_of_row w1 _ 2 _ _ _ HRA.out; have ta3 := cell_of_row w1 _ 3 _ _ _ HRA.out
    go_wp2_with (fail)
    refine (H1.out _ HB1.out).mono ?_
    rintro e w2 ⟨rfl, hw2⟩
    clear ta0 ta1 ta2 ta3
    obtain ⟨w3, hw3⟩ : ∃ w3, w2.alloc (.cells #[.pointer none, .slice none 0 0] 67) = w3 := ⟨_, rfl⟩
    have HW3 := Lib.hid hw3
    have HB2 := Lib.hid (HB1.out.trans (hw2.mono HB1.out.size))
    have HBB : Hid (∀ W, Below w2.heap.size w3 W → Below w.heap.size w W) := Lib.hid (fun W h => HB2.out.trans (((show Below w2.heap.size w2 w3 by rw [← hw3]; exact (Below.refl _ _).alloc (Nat.le_refl _) _).trans h).mono HB2.out.size))
    have HLT := Lib.hid (show w2.heap.size < w3.heap.size by rw [← hw3]; simp)
    have HBX : Hid (∀ W, Below w2.heap.size w3 W → W.heap[w.heap.size]? = some (.cells #[.string ⟨a.pair.toArray⟩, .int .i64 a.serial, .slice A a.tree.length c, .slice B a.stamps.length d] 26 (0, 0))) :=
      Lib.hid (fun W h => ((show Below w2.heap.size w2 w3 by rw [← hw3]; exact (Below.refl _ _).alloc (Nat.le_refl _) _).trans h).block w.heap.size (by have := HS1.out; have := hw2.size; omega) |>.trans ((hw2.block w.heap.size (by have := HS1.out; omega)).trans HRA.out))
    have HWR : Hid (Wr w2.heap.size w2.heap.size [] w3 w3) := Lib.hid ⟨by rw [← hw3]; exact fresh_writer w2, Below.refl _ _, Lib.OthersKept.refl _ _ _⟩
    clear hw2 hw3
    go_upto_region 4 with (fail)
    rw [HW3.out]
    have ta0 := cell_of_row w3 _ 0 _ _ _ (HBX.out w3 (Below.refl _ _))
    go_wp2_with (fail)
    clear ta0
    refine (show Calls Tryz.prog 35 _ _ _ from texts_new w2.heap.size [] [magicB, a.pair] w3 w3 HWR.out HLT.out (by have := HKP.out.2.1; intro t ht; simp at ht; rcases ht with rfl | rfl; decide; omega) (by simp) (by simp)).mono ?_
    rintro e w4 ⟨rfl, hw4, -⟩
    rw [textsB_two, List.nil_append] at hw4
    have HW4 := Lib.hid hw4
    have tb1 := cell_of_row w4 _ 1 _ _ _ (HBX.out w4 hw4.2.1)
    have tb2 := cell_of_row w4 _ 2 _ _ _ (HBX.out w4 hw4.2.1)
    clear hw4
    go_wp2_with (fail)
    clear tb1 tb2
    refine (show Calls Tryz.prog 36 _ _ _ from nums_new w2.heap.size _ [a.serial, a.tree.length] w3 w4 HW4.out HLT.out (by have := HKP.out.2.2.1; have := HSM.out.1; intro t ht; simp at ht; rcases ht with rfl | rfl <;> omega) (by simp) (by have h1 := textB_length magicB; have h2 := textB_length a.pair; have h3 := HKP.out.2.1; have h0 : magicB.length = 8 := rfl; rw [List.length_append]; omega)).mono ?_
    rintro e w5 ⟨rfl, hw5, -⟩
    rw [numsB_two HKP.out.2.2.1 (by omega)] at hw5
    have HW5 : Hid (Wr w2.heap.size w2.heap.size (upA a 0) w3 w5) := Lib.hid (by rw [upA_zero]; unfold headB; simpa [numI, List.append_assoc] using hw5)
    have tb2 := cell_of_row w5 _ 2 _ _ _ (HBX.out w5 HW5.out.2.1)
    clear hw5 HW4
    go_wp2_with (fail)
    clear tb2
    go_loopw [26] (fun t26 W => ∃ i : Nat, i ≤ a.tree.length ∧ t26 = .int .i64 i ∧ Hid (Wr w2.heap.size w2.heap.size (upA a i) w3 W)) (fun t26 _ => a.tree.length - (intOf t26).toNat)
    case atStart => exact ⟨0, by omega, rfl, HW5⟩
    case round =>
      clear HW5
      obtain ⟨i, hi, rfl, HW⟩ := hrel
      have i0 : (0 : Int) ≤ i := by omega
      have e1 : IntKind.i64.wrap ((i : Int) + 1) = (i : Int) + 1 := IntWalk.i64_in _ (by omega)
      by_cases hlt : i < a.tree.length
      · have i1 : (i : Int) < a.tree.length := by omega
        have i2 : (i : Int) < a.stamps.length := by have := HKP.out.2.2.2.2.1; omega
        have hls : i < a.stamps.length := by omega
        obtain ⟨ad, rfl, c0, c1, c2, c3⟩ := node_cells (HAA.out _ (HBB.out _ HW.out.2.1)).rows hlt
        have HNX := Lib.hid (upA_next HKP.out.2.2.2.2.1 hlt)
        have HUP := Lib.hid (Nat.le_trans (upA_le HKP.out.2.2.2.2.1 (i + 1)) HPL.out)
        have hmem : (a.tree.getD i default, a.stamps.getD i default) ∈ a.tree.zip a.stamps := by
          have h1 : i < (a.tree.zip a.stamps).length := by rw [List.length_zip]; omega
          have h2 := List.getElem_mem h1
          rw [List.getElem_zip] at h2
          rw [List.getD_eq_getElem?_getD, List.getElem?_eq_getElem hlt, Option.getD_some, List.getD_eq_getElem?_getD, List.getElem?_eq_getElem hls, Option.getD_some]
          exact h2
        have HF := Lib.hid (HFT.out _ hmem)
        have HSC := Lib.hid (fun W (h : Below w2.heap.size w3 W) => stp_cells (HAA.out _ (HBB.out _ h)).stps hls)
        clear hmem
        rw [HNX.out] at HUP
        generalize a.tree.getD i default = nd at *
        generalize a.stamps.getD i default = st at *
        obtain ⟨wn, hwn⟩ : ∃ wn, wr.alloc (.cells (ndV nd).toArray 41) = wn := ⟨_, rfl⟩
        have HWN := Lib.hid hwn
        have HB0 := Lib.hid (show w2.heap.size ≤ w3.heap.size from Nat.le_of_lt HLT.out)
        have HNR := Lib.hid (show wn.heap[wr.heap.size]? = some (.cells (ndV nd).toArray 41 (0, 0)) by rw [← hwn]; exact heap_alloc_new _ _)
        have HNB := Lib.hid (show wr.heap.size ≠ w2.heap.size by have := HW.out.2.1.size; have := HLT.out; omega)
        have HW2 : Hid (Wr w2.heap.size w2.heap.size (upA a i) w3 wn) := Lib.hid (HW.out.below HB0.out (by rw [← hwn]; exact (Below.refl _ _).alloc (Nat.le_refl _) _))
        clear hwn
        unfold ndV at HWN HNR
        go_upto_region 9 with (fail)
        rw [HWN.out]
        have n0 := cell_of_row wn _ 0 _ _ _ HNR.out
        go_wp2_with (fail)
        clear n0
        refine (show Calls Tryz.prog 35 _ _ _ from texts_new w2.heap.size (upA a i) [nd.path] w3 wn HW2.out HLT.out (by have := HF.out.1; intro t ht; simp at ht; rw [ht]; exact Nat.le_trans this (by decide)) (by simp) (by have := HUP.out; simp only [List.length_append] at this; omega)).mono ?_
        rintro e wa ⟨rfl, hwa, hka⟩
        rw [textsB_one] at hwa
        have HWA := Lib.hid hwa
        have HNA := Lib.hid (hka _ _ HNR.out (by simpa using HNB.out) (fun c z e => by cases e))
        clear hwa hka
        have n1 := cell_of_row wa _ 1 _ _ _ HNA.out
        have n3 := cell_of_row wa _ 3 _ _ _ HNA.out
        go_wp2_with (fail)
        clear n1 n3
        refine (show Calls Tryz.prog 36 _ _ _ from nums_new w2.heap.size _ [nd.kind, nd.mode] w3 wa HWA.out HLT.out (by have h1 := HF.out.2.2.1; have h2 := HF.out.2.2.2.1; intro t ht; simp at ht; rcases ht with rfl | rfl; exact h1; exact h2) (by simp) (by have := HUP.out; simp only [List.length_append] at this ⊢; omega)).mono ?_
        rintro e wb ⟨rfl, hwb, hkb⟩
        rw [numsB_two HF.out.2.2.1.1 HF.out.2.2.2.1.1] at hwb
        have HWB := Lib.hid hwb
        have HNB2 := Lib.hid (hkb _ _ HNA.out (by simpa using HNB.out) (fun c z e => by cases e))
        clear hwb hkb
        have n2 := cell_of_row wb _ 2 _ _ _ HNB2.out
        go_wp2_with (fail)
        clear n2
        refine (show Calls Tryz.prog 35 _ _ _ from texts_new w2.heap.size _ [nd.data] w3 wb HWB.out HLT.out (by have := HF.out.2.1; intro t ht; simp at ht; rw [ht]; exact Nat.le_trans this (by decide)) (by simp) (by have := HUP.out; simp only [List.length_append] at this ⊢; omega)).mono ?_
        rintro e wc ⟨rfl, hwc, hkc⟩
        rw [textsB_one] at hwc
        have HWC := Lib.hid hwc
        clear hwc hkc
        have x3 := cell_of_row wc _ 3 _ _ _ (HBX.out wc HWC.out.2.1)
        obtain ⟨bd, rfl, s0, s1, s2⟩ := HSC.out wc HWC.out.2.1
        go_wp2_with (fail)
        refine wp_region_quiet_tail 18 (by kernel_rfl) (by kernel_rfl) ?_
        simp only [List.take, List.drop]
        repeat first
          | (go_big_quiet_want; refine quiet_load_cell 24 _ rfl _ rfl _ _ x3 Tryz.underlying24 rfl ?_; simp only [Act.put, List.setIfInBounds_toArray, List.set_cons_succ, List.set_cons_zero]; go_big_quiet_on)
          | (go_big_quiet_want; refine quiet_load_cell 3 _ rfl _ rfl _ _ s0 Tryz.underlying3 rfl ?_; simp only [Act.put, List.setIfInBounds_toArray, List.set_cons_succ, List.set_cons_zero]; go_big_quiet_on)
          | (go_big_quiet_want; refine quiet_load_cell 3 _ rfl _ rfl _ _ s1 Tryz.underlying3 rfl ?_; simp only [Act.put, List.setIfInBounds_toArray, List.set_cons_succ, List.set_cons_zero]; go_big_quiet_on)
          | (go_big_quiet_want; refine quiet_load_cell 3 _ rfl _ rfl _ _ s2 Tryz.underlying3 rfl ?_; simp only [Act.put, List.setIfInBounds_toArray, List.set_cons_succ, List.set_cons_zero]; go_big_quiet_on)
          | go_big_quiet_step (fail)
        refine wpQuiet_nil ?_
        intro W hW
        have HWD := Lib.hid (HWC.out.below HB0.out hW)
        clear hW x3 s0 s1 s2
        go_wp2_with (fail)
        refine (show Calls Tryz.prog 36 _ _ _ from nums_new w2.heap.size _ [st.ino, st.size, st.time] w3 W HWD.out HLT.out (by have h := HF.out.2.2.2.2; intro t ht; simp at ht; rcases ht with rfl | rfl | rfl; exact h.1; exact h.2.1; exact h.2.2) (by simp) (by have := HUP.out; simp only [List.length_append] at this ⊢; omega)).mono ?_
        rintro e we ⟨rfl, hwe, -⟩
        rw [numsB_three HF.out.2.2.2.2.1.1 HF.out.2.2.2.2.2.1.1 HF.out.2.2.2.2.2.2.1] at hwe
        have HWE : Hid (Wr w2.heap.size w2.heap.size (upA a (i + 1)) w3 we) := Lib.hid (by rw [HNX.out]; exact hwe)
        clear hwe
        go_wp2_with (fail)
        go_roundw
        case rel => exact ⟨i + 1, by omega, by go_num, HWE⟩
        case measure => simp [intOf]; omega
      · obtain rfl : i = a.tree.length := by omega
        have i1 : decide ((a.tree.length : Int) < (a.tree.length : Int)) = false := by rw [decide_eq_false_iff_not]; omega
        have HW6 : Hid (Wr w2.heap.size w2.heap.size (payA a) w3 wr) := by have := HW; rwa [upA_all HKP.out.2.2.2.2.1] at this
        go_wp2_with (fail)
        refine (StringW_any _ _ _ _ HW6.out.1 (by intro e; have := congrArg List.length e; unfold payA headB at this; have h1 := numB_pos a.tree.length; simp only [List.length_append, List.length_nil] at this; omega)).mono ?_
        rintro e wf ⟨rfl, hwf⟩
        have HBF := Lib.hid (HBB.out _ (HW6.out.2.1.trans hwf))
        clear hwf
        go_wp2_with (fail)
        refine (HPK.out _).mono ?_
        rintro e wg ⟨rfl, hwg⟩
        go_wp2_with (fail)
        go_ret2
        exact ⟨rfl, HBF.out.trans (hwg.mono HBF.out.size)⟩
end Go.Proofs.YtjajoiahgfafgaaGreatDoor
end

/- Rows of structs: a list of values, each of so many cells, in a row of the call's own. -/
section
namespace Go.Proofs.YtjajoiahgfafgaaGreatDoor
open Go.RowKit

section
variable {α : Type}
def rowsE (enc : α → List Value) (l : List α) : List Value := l.flatMap enc
variable {enc : α → List Value} {m : Nat}
theorem rowsE_cons (x : α) (l : List α) : rowsE enc (x :: l) = enc x ++ rowsE enc l := by simp [rowsE]
theorem rowsE_append (l k : List α) : rowsE enc (l ++ k) = rowsE enc l ++ rowsE enc k := by simp [rowsE]
theorem rowsE_one (x : α) : rowsE enc [x] = enc x := by simp [rowsE]
theorem rowsE_nil : rowsE enc [] = [] := rfl
theorem rowsE_length (hm : ∀ x, (enc x).length = m) (l : List α) : (rowsE enc l).length = l.length * m := by
  induction l with
  | nil => simp [rowsE]
  | cons x l ih => rw [rowsE_cons, List.length_append, hm, ih, List.length_cons, Nat.add_mul]; omega
theorem rowsE_oneCell (h1 : ∀ x, ∀ u ∈ enc x, u.oneCell' = true) (l : List α) : ∀ u ∈ rowsE enc l, u.oneCell' = true := by
  intro u hu
  obtain ⟨x, -, hx⟩ := List.mem_flatMap.1 hu
  exact h1 x u hx
theorem rowsE_get (hm : ∀ x, (enc x).length = m) (l : List α) : ∀ (j : Nat) (h : j < l.length) (i : Nat), i < m → (rowsE enc l)[j * m + i]? = (enc l[j])[i]? := by
  induction l with
  | nil => intro j h; simp at h
  | cons x l ih =>
    intro j h i hi
    rw [rowsE_cons]
    cases j with
    | zero => rw [List.getElem?_append_left (by rw [hm]; omega)]; simp
    | succ j =>
      rw [List.getElem?_append_right (by rw [hm, Nat.add_mul]; omega), hm, List.getElem_cons_succ, ← ih j (by simpa using h) i hi]
      congr 1; rw [Nat.add_mul]; omega
theorem rowsE_set (hm : ∀ x, (enc x).length = m) (l : List α) : ∀ (j : Nat) (_ : j < l.length) (x : α), rowsE enc (l.set j x) = (rowsE enc l).take (j * m) ++ enc x ++ (rowsE enc l).drop (j * m + m) := by
  induction l with
  | nil => intro j h; simp at h
  | cons y l ih =>
    intro j h x
    cases j with
    | zero =>
      rw [List.set_cons_zero, rowsE_cons, rowsE_cons]
      simp [hm]
    | succ j =>
      rw [List.set_cons_succ, rowsE_cons, rowsE_cons, ih j (by simpa using h) x]
      have h1 : (enc y).take ((j + 1) * m) = enc y := List.take_of_length_le (by rw [hm, Nat.add_mul]; omega)
      have h2 : (enc y).drop ((j + 1) * m + m) = [] := List.drop_eq_nil_of_le (by rw [hm, Nat.add_mul]; omega)
      rw [List.take_append, List.drop_append, hm, h1, h2]
      rw [show (j + 1) * m - m = j * m by rw [Nat.add_mul]; omega, show (j + 1) * m + m - m = j * m + m by rw [Nat.add_mul]; omega]
      simp
theorem rows_mid {A vs : List Value} {o k : Nat} (hv : vs.length = m) (h1 : o + m ≤ k) (h2 : k ≤ A.length) : (A.take o ++ vs ++ A.drop (o + m)).take k = (A.take k).take o ++ vs ++ (A.take k).drop (o + m) := by
  have hl : (A.take o ++ vs).length = o + m := by simp [hv]; omega
  rw [List.take_append, hl, List.take_of_length_le (by omega), List.take_take, Nat.min_eq_left (by omega), List.drop_take]

variable {w w' : World} {base g c : Nat} {t : TypeId} {l : List α}
theorem rowsE_some {v : Value} (h : w.ownsRow base t m v l.length (rowsE enc l)) (hn : 0 < l.length) : ∃ g c, v = .slice (some ⟨g, 0, none⟩) l.length c ∧ base ≤ g ∧ g < w.heap.size := by
  rcases h.2 with ⟨h1, h2⟩ | ⟨g, cap, cur, h1, h2, h3, -⟩
  · omega
  · exact ⟨g, cap, h1, h2, (Array.getElem?_eq_some_iff.1 h3).1⟩
theorem rowsE_cell (hm : ∀ x, (enc x).length = m) (h : w.ownsRow base t m (.slice (some ⟨g, 0, none⟩) l.length c) l.length (rowsE enc l)) {j : Nat} (hj : j < l.length) {i : Nat} (hi : i < m) : w.cell? ⟨g, j * m + i, none⟩ = (enc l[j])[i]? := by
  have h1 := rowsE_get hm l j hj i hi
  have h2 : i < (enc l[j]).length := by rw [hm]; exact hi
  rw [List.getElem?_eq_getElem h2] at h1 ⊢
  have := h.cells (g := g) rfl (j * m + i) _ h1
  simpa [Addr.add_mid] using this
theorem rowsE_frozen (h : w.ownsRow base t m (.slice (some ⟨g, 0, none⟩) l.length c) l.length (rowsE enc l)) (i : Nat) : w.frozen? ⟨g, i, none⟩ = false := by
  rcases h.2 with ⟨h1, h2⟩ | ⟨g', cap, cur, h1, h2, h3, -⟩
  · cases h1
  · injection h1 with h1 _ _
    injection h1 with h1
    injection h1 with h1 _ _
    subst h1
    exact frozen_of_row w g _ _ _ h3
theorem rowsE_there (hm : ∀ x, (enc x).length = m) (h : w.ownsRow base t m (.slice (some ⟨g, 0, none⟩) l.length c) l.length (rowsE enc l)) {j : Nat} (hj : j < l.length) : w.there g (j * m) m := by
  intro i hi
  refine ⟨?_, rowsE_frozen h _⟩
  rw [rowsE_cell hm h hj hi, List.getElem?_eq_getElem (by rw [hm]; exact hi)]; rfl
theorem rowsE_range (hm : ∀ x, (enc x).length = m) (h : w.ownsRow base t m (.slice (some ⟨g, 0, none⟩) l.length c) l.length (rowsE enc l)) {j : Nat} (hj : j < l.length) : w.rangeAt g (j * m) (enc l[j]) := by
  intro i v hv
  have hi : i < m := by have := (List.getElem?_eq_some_iff.1 hv).1; rwa [hm] at this
  rw [rowsE_cell hm h hj hi]; exact hv
theorem rowsE_setrow (hm : ∀ x, (enc x).length = m) (h : w.ownsRow base t m (.slice (some ⟨g, 0, none⟩) l.length c) l.length (rowsE enc l)) {j : Nat} (hj : j < l.length) (x : α) :
    (w.setCells g (j * m) (enc x)).ownsRow base t m (.slice (some ⟨g, 0, none⟩) l.length c) l.length (rowsE enc (l.set j x)) ∧ w.grownBy (w.setCells g (j * m) (enc x)) (some g) := by
  rcases h.2 with ⟨h1, h2⟩ | ⟨g', cap, cur, h1, h2, h3, h4, h5, h6, h7⟩
  · cases h1
  · injection h1 with h1 _ h1c
    injection h1 with h1
    injection h1 with h1 _ _
    subst h1 h1c
    have hle : (j + 1) * m ≤ l.length * m := Nat.mul_le_mul_right m hj
    have hle2 : l.length * m ≤ c * m := Nat.mul_le_mul_right m h4
    rw [Nat.add_mul] at hle
    obtain ⟨e1, e2, e3⟩ := heap_setCells (enc x) (j * m) cur w h3 (by rw [hm, h6]; omega)
    rw [hm] at e1
    refine ⟨⟨by rw [rowsE_length hm, List.length_set], .inr ⟨g, c, _, rfl, h2, e1, h4, h5, ?_, ?_⟩⟩, e2⟩
    · simp [hm]; omega
    · show (List.take _ _) = _
      rw [rows_mid (hm x) (by omega) (by simp; omega), h7, rowsE_set hm l j hj x]
/-- one cell of a row is stored -/
theorem rowsE_setcell (hm : ∀ x, (enc x).length = m) (h : w.ownsRow base t m (.slice (some ⟨g, 0, none⟩) l.length c) l.length (rowsE enc l)) {j : Nat} (hj : j < l.length) {i : Nat} (hi : i < m) (u : Value) (x : α) (hx : enc x = (enc l[j]).set i u) :
    (w.setCell ⟨g, j * m + i, none⟩ u).ownsRow base t m (.slice (some ⟨g, 0, none⟩) l.length c) l.length (rowsE enc (l.set j x)) ∧ w.grownBy (w.setCell ⟨g, j * m + i, none⟩ u) (some g) := by
  have hle : (j + 1) * m ≤ l.length * m := Nat.mul_le_mul_right m hj
  rw [Nat.add_mul] at hle
  refine ⟨?_, gb_set (gb_refl w _) (.inl rfl) u⟩
  rcases h.2 with ⟨h1, h2⟩ | ⟨g', cap, cur, h1, h2, h3, h4, h5, h6, h7⟩
  · cases h1
  · injection h1 with h1 _ h1c
    injection h1 with h1
    injection h1 with h1 _ _
    subst h1 h1c
    refine ⟨by rw [rowsE_length hm, List.length_set], .inr ⟨g, c, _, rfl, h2, heap_set h3 _ u, h4, h5, by simpa using h6, ?_⟩⟩
    rw [Array.toList_setIfInBounds, List.take_set, h7, rowsE_set hm l j hj x, hx]
    have hl := rowsE_length hm l
    have hlj := hm l[j]
    have e1 : (rowsE enc l).take (j * m) ++ enc l[j] ++ (rowsE enc l).drop (j * m + m) = rowsE enc l := by
      rw [← rowsE_set hm l j hj l[j]]; simp
    conv => lhs; rw [← e1]
    rw [List.append_assoc, List.append_assoc, List.set_append_right _ _ (by simp; omega), List.length_take, hl, Nat.min_eq_left (by omega), show j * m + i - j * m = i by omega, List.set_append_left _ _ (by omega)]
end
end Go.Proofs.YtjajoiahgfafgaaGreatDoor
end


section
namespace Go.Proofs.YtjajoiahgfafgaaGreatDoor
open Go.RowKit Plain

set_option maxHeartbeats 400000 in
theorem Crc_ref (s : List UInt8) (w : World) (hs : s.length ≤ 9223372036854775807) :
    Calls Tryz.prog 69 #[.string ⟨s.toArray⟩] w (Ret w (.int .u32 (crc s))) := by
  go_enter Tryz.func69, Tryz.ntmps69
  go_wp2_with (fail)
  go_loop [3, 4, 5] (fun t3 t4 _ => ∃ i : Nat, i ≤ s.length ∧ t4 = .int .i64 i ∧ t3 = .int .u32 (crcRun (s.take i) : Nat)) (fun _ t4 _ => s.length - (intOf t4).toNat)
  case atStart => exact ⟨0, by omega, rfl, rfl⟩
  case round =>
    obtain ⟨i, hi, rfl, rfl⟩ := hrel
    have hv := crcRun_lt (s.take i)
    by_cases hlt : i < s.length
    · have hstep : crcRun (s.take (i + 1)) = bits1 8 (crcRun (s.take i) ^^^ s[i].toNat) := by
        unfold crcRun
        rw [List.take_succ_eq_append_getElem hlt, List.foldl_append]
        rfl
      have hc : s[i].toNat < 256 := s[i].toNat_lt
      have e1 := u32_xor_nat (crcRun (s.take i)) s[i].toNat hv (by omega)
      have hx := xor_lt hv (show s[i].toNat < 4294967296 by omega)
      generalize hxx : crcRun (s.take i) ^^^ s[i].toNat = x at *
      have HS := Lib.hid hstep
      have HX := Lib.hid hxx
      clear hstep hxx
      generalize crcRun (s.take i) = v at *
      generalize hci : s[i] = c at *
      go_wp2_with (fail)
      go_loop [3, 5] (fun t3 t5 => ∃ j : Nat, j ≤ 8 ∧ t5 = .int .i64 j ∧ t3 = .int .u32 (bits1 j x : Nat)) (fun _ t5 => 8 - (intOf t5).toNat)
      case atStart => exact ⟨0, by omega, rfl, rfl⟩
      case round =>
        obtain ⟨j, hj, rfl, rfl⟩ := hrel
        have hb := bits1_lt (n := j) hx
        by_cases hlt : j < 8
        · generalize hy : bits1 j x = y at *
          have HY := Lib.hid hy
          clear hy
          rcases Nat.mod_two_eq_zero_or_one y with h2 | h2
          · have hB : ((y : Int) % 2 == 1) = false := by rw [show (y : Int) % 2 = 0 by omega]; rfl
            have H2 := Lib.hid h2
            clear h2
            go_wp2_with (fail)
            go_round
            case rel => exact ⟨j + 1, by omega, by go_num, by rw [bit1_ref0 y H2.out, ← HY.out]; rfl⟩
            case measure => simp [intOf]; omega
          · have hB : ((y : Int) % 2 == 1) = true := by rw [show (y : Int) % 2 = 1 by omega]; rfl
            have H2 := Lib.hid h2
            clear h2
            go_wp2_with (fail)
            go_round
            case rel => exact ⟨j + 1, by omega, by go_num, by rw [bit1_ref1 y hb H2.out, ← HY.out]; rfl⟩
            case measure => simp [intOf]; omega
        · obtain rfl : j = 8 := by omega
          go_wp2_with (fail)
          go_round
          case rel => exact ⟨i + 1, by omega, by go_num, by rw [HS.out]⟩
          case measure => simp [intOf]; omega
    · obtain rfl : i = s.length := by omega
      go_wp2_with (fail)
      go_ret
      refine ⟨?_, Below.refl _ _⟩
      have h := u32_xor_nat (crcRun s) 4294967295 (crcRun_lt s) (by omega)
      simp only [Array.getD_eq_getD_getElem?, List.getElem?_toArray, List.getElem?_cons_succ, List.getElem?_cons_zero, Option.getD_some]
      exact ret_int h
end Go.Proofs.YtjajoiahgfafgaaGreatDoor
end
