/- Texts joined: Builder, Grow, Join, NameFns2, Order, Tree2, PlainSearch, Close, Open, Open2, Open3. -/
import Derived.Test.YtjajoiahgfafgaaGreatDoorBCodeBaseC1
import Derived.Lib.FrozenHead2
import Derived.Lib.OthersKept
import Derived.Lib.UnsafeStr
import Derived.Test.YtjajoiahgfafgaaGreatDoorShelf
import Derived.Shelf.Strings.Builder2
import Derived.RegionTactic
import Derived.Lib.Join
import Derived.Test.YtjajoiahgfafgaaGreatDoorBArchWrites2
import Derived.Test.YtjajoiahgfafgaaGreatDoorBArchWrites1
import Derived.ProofKit
import Derived.OpenShut
import Derived.JoinedCond
import Derived.Deep.CondSized
import Derived.Deep.Slices
import Derived.Deep.Fields
import Derived.ChangeSame
set_option linter.unusedSimpArgs false
set_option linter.unusedVariables false

/- Contracts of strings.Builder's methods at a builder that the call itself has made. -/
section
namespace Go.Proofs.YtjajoiahgfafgaaGreatDoor
open Go.RowKit

theorem sizeBuilder : (Tryz.prog.info? 65).map (·.size) = some 2 := by kernel_rfl
theorem info_byte : (Tryz.prog.info? 5).map (fun i => (i.zero, i.size, i.bytes)) = some (some (.int .u8 0), 1, 1) := by kernel_rfl
theorem liesBuilder : liesAt Tryz.prog Tryz.prog.depth 65 (2 / Tryz.prog.cellsOf 65) 0 65 1 = true := by kernel_rfl

set_option maxHeartbeats 400000 in
theorem copyCheck_used (b : Nat) (w : World) (h0 : w.cell? ⟨b, 0, none⟩ = some (.pointer (some ⟨b, 0, none⟩))) :
    Calls Tryz.prog 91 #[.pointer (some ⟨b, 0, none⟩)] w fun e w' => e = .returned (.tuple #[]) ∧ w' = w := by
  obtain ⟨j, hj, _⟩ := Option.map_eq_some_iff.1 sizeBuilder
  have hne := fun w => Lib.run_neq_ptr_same (P := Tryz.prog) w ⟨b, 0, none⟩ Tryz.underlying62 hj
  go_enter Tryz.func91, Tryz.ntmps91
  go_wp2_with (fail)
  go_end0
  exact ⟨rfl, rfl⟩

set_option maxHeartbeats 400000 in
theorem copyCheck_fresh (b : Nat) (w : World) (h0 : w.cell? ⟨b, 0, none⟩ = some (.pointer none)) (hsh : w.shape? b = some (65, 2)) (hfz : w.frozen? ⟨b, 0, none⟩ = false) :
    Calls Tryz.prog 91 #[.pointer (some ⟨b, 0, none⟩)] w fun e w' => e = .returned (.tuple #[]) ∧ w' = w.setCell ⟨b, 0, none⟩ (.pointer (some ⟨b, 0, none⟩)) := by
  obtain ⟨j, hj, hjs⟩ := Option.map_eq_some_iff.1 sizeBuilder
  have c1 := Lib.run_to_unsafe (P := Tryz.prog) w ⟨b, 0, none⟩ Tryz.underlying62 Tryz.underlying150 hj (by rw [hjs]; decide) hsh (Nat.zero_lt_succ 1)
  have c2 := Lib.run_from_unsafe (P := Tryz.prog) w ⟨b, 0, none⟩ Tryz.underlying150 Tryz.underlying62 hj hsh liesBuilder
  have c3 : ∀ (x : Value) w, (callFunc 118 #[x]).run Tryz.prog w = .ok (.value x) w := fun x w => by
    rw [run_callFunc_extern Tryz.func118 (by kernel_rfl) (by kernel_rfl) (by kernel_rfl) (e := Extern.AbiNoEscape.same) (by kernel_rfl), Lib.run_noEscape]
    rfl
  go_enter Tryz.func91, Tryz.ntmps91
  go_wp2_with (fail)
  go_end0
  exact ⟨rfl, rfl⟩

theorem copyCheck_any (B b : Nat) (bs : List Value) (w : World) (h : Lib.IsBuilderF 65 5 B b bs w) :
    Calls Tryz.prog 91 #[.pointer (some ⟨b, 0, none⟩)] w fun e w' => e = .returned (.tuple #[]) ∧
      (Lib.BuilderAtF 65 5 B b (.pointer (some ⟨b, 0, none⟩)) bs w' ∧ Below B w w' ∧ Lib.OthersKept 5 (some b) w w') := by
  rcases h with h | h
  · refine (copyCheck_fresh b w h.cell0 h.shape h.frozen0).mono ?_
    rintro e w' ⟨rfl, rfl⟩
    exact ⟨rfl, h.used _, (Below.refl B w).setCell (p := ⟨b, 0, none⟩) h.1 _, (Lib.OthersKept.refl _ _ w).setCell ⟨b, 0, none⟩ rfl _⟩
  · refine (copyCheck_used b w h.cell0).mono ?_
    rintro e w' ⟨rfl, rfl⟩
    exact ⟨rfl, h, Below.refl B _, Lib.OthersKept.refl _ _ _⟩

theorem builderAt_below {T e : TypeId} {B b : Nat} {p : Value} {bs : List Value} {w w' : World} (h : Lib.BuilderAtF T e B b p bs w) (hb : Below w.heap.size w w') : Lib.BuilderAtF T e B b p bs w' := by
  obtain ⟨hB, v, hbk, hown, hne⟩ := h
  have hlt : b < w.heap.size := by
    rcases Nat.lt_or_ge b w.heap.size with h' | h'
    · exact h'
    · simp [Array.getElem?_eq_none h'] at hbk
  exact ⟨hB, v, (hb.block b hlt).trans hbk, hown.kept (row := none) ⟨hb.os, hb.tape, hb.output, hb.size, fun k hk _ => hb.block k hk⟩ (by cases v.ownBlock <;> simp), hne⟩
/-- A builder is kept by a call that keeps old memory. -/
theorem builder_below {T e : TypeId} {B b : Nat} {bs : List Value} {w w' : World} (h : Lib.IsBuilderF T e B b bs w) (hb : Below w.heap.size w w') : Lib.IsBuilderF T e B b bs w' :=
  h.imp (fun h => builderAt_below h hb) (fun h => builderAt_below h hb)
theorem fresh_builder (w : World) : Lib.IsBuilderF 65 5 w.heap.size w.heap.size (Lib.byteCells []) (w.alloc (.cells #[.pointer none, .slice none 0 0] 65)) :=
  Lib.IsBuilderF.of (Lib.fresh_isBuilder _ _ w)

set_option maxHeartbeats 400000 in
theorem WriteString_any (B b : Nat) (bs : List Value) (s : ByteArray) (w : World) (h : Lib.IsBuilderF 65 5 B b bs w) (hlen : bs.length + s.size ≤ 140737488355328) (hBw : B ≤ w.heap.size) :
    Calls Tryz.prog 63 #[.pointer (some ⟨b, 0, none⟩), .string s] w fun e w' => e = .returned (.tuple #[.int .i64 s.size, .nilIface]) ∧
      (Lib.BuilderAtF 65 5 B b (.pointer (some ⟨b, 0, none⟩)) (bs ++ Lib.strCells s) w' ∧ Below B w w' ∧ Lib.OthersKept 5 (some b) w w') := by
  obtain ⟨i0, hi, hz0, hz1, hz2⟩ := info_parts info_byte
  go_enter Tryz.func63, Tryz.ntmps63
  go_wp2_with (fail)
  refine (copyCheck_any B b bs _ h).mono ?_
  rintro e w1 ⟨rfl, h1, hb1, hk1⟩
  obtain ⟨hB, v, hbk, hown, hne⟩ := h1
  have c0 : w1.cell? ⟨b, 0, none⟩ = some (.pointer (some ⟨b, 0, none⟩)) := by rw [Lib.cell_of_heap hbk]; rfl
  have c1 : w1.cell? ⟨b, 1, none⟩ = some v := by rw [Lib.cell_of_heap hbk]; rfl
  go_wp2_with (at_builtin; refine Lib.wpList_append_own_stringF _ rfl _ _ 63 9 rfl B 5 i0 Tryz.underlying63 Tryz.underlying9 hi hz0 hz1 hz2 _ _ _ rfl hown s rfl ?c3 ?c4 ?c5 ?_)
  case c3 => unfold maxLen; omega
  case c4 => omega
  case c5 => have := hb1.size; omega
  intro v' w2 hown' hgrow _
  have hlt : b < w1.heap.size := by
    rcases Nat.lt_or_ge b w1.heap.size with h' | h'
    · exact h'
    · simp [Array.getElem?_eq_none h'] at hbk
  have hb2 : w2.heap[b]? = some (.cells #[.pointer (some ⟨b, 0, none⟩), v] 65 (0, 0)) := by
    rw [hgrow.block b hlt (fun e => hne e.symm)]
    exact hbk
  have d0 : w2.cell? ⟨b, 0, none⟩ = some (.pointer (some ⟨b, 0, none⟩)) := by rw [Lib.cell_of_heap hb2]; rfl
  have d1 : w2.cell? ⟨b, 1, none⟩ = some v := by rw [Lib.cell_of_heap hb2]; rfl
  have f1 : w2.frozen? ⟨b, 1, none⟩ = false := Lib.frozen_of_heap hb2 1
  obtain ⟨ao, n', cap, rfl⟩ : ∃ ao n' cap, v' = .slice ao n' cap := by
    rcases hown'.2 with ⟨hv, _⟩ | ⟨g, cap, cur, fz, hv, _⟩
    · exact ⟨_, _, _, hv⟩
    · exact ⟨_, _, _, hv⟩
  go_wp2
  go_ret2
  refine ⟨rfl, ?_, ?_, (hk1.grown hgrow (Lib.ownsRowF_kind hown)).setCell ⟨b, 1, none⟩ rfl _⟩
  · exact Lib.BuilderAtF.put (T := 65) (e := 5) hB hb2 (bs' := bs ++ Lib.strCells s) (by simpa [Lib.strCells_length] using hown') (by decide)
  · exact (hb1.grown hgrow (by have := hb1.size; omega) (fun k hk => (hown.lt k hk).1)).setCell (p := ⟨b, 1, none⟩) hB _

/-- The same, by lists of bytes. -/
theorem WriteString_list (B b : Nat) (l s : List UInt8) (w : World) (h : Lib.IsBuilderF 65 5 B b (Lib.byteCells l) w) (hlen : l.length + s.length ≤ 140737488355328) (hBw : B ≤ w.heap.size) :
    Calls Tryz.prog 63 #[.pointer (some ⟨b, 0, none⟩), .string ⟨s.toArray⟩] w fun e w' => e = .returned (.tuple #[.int .i64 s.length, .nilIface]) ∧
      (Lib.IsBuilderF 65 5 B b (Lib.byteCells (l ++ s)) w' ∧ Below B w w' ∧ Lib.OthersKept 5 (some b) w w') :=
  (WriteString_any B b _ ⟨s.toArray⟩ w h (by simpa [Lib.byteCells_length, ByteArray.size] using hlen) hBw).mono fun e w' ⟨he, h1, h2, h3⟩ =>
    ⟨he, .inr (by rw [Lib.byteCells_append]; exact h1), h2, h3⟩

end Go.Proofs.YtjajoiahgfafgaaGreatDoor
end

/- strings.Builder: room is made in a new builder. -/
section
namespace Go.Proofs.YtjajoiahgfafgaaGreatDoor
open Go.RowKit

theorem cellsByte : Tryz.prog.cellsOf 5 = 1 := by kernel_rfl
theorem sizeByteN : ∃ i, Tryz.prog.info? 5 = some i ∧ i.size = 1 := by
  obtain ⟨i0, hi, hz0, hz1, hz2⟩ := info_parts info_byte
  exact ⟨i0, hi, hz1⟩

set_option maxHeartbeats 2000000 in
set_option maxRecDepth 100000 in
theorem grow_fresh (B b n : Nat) (w : World) (hB : B ≤ b) (hbk : w.heap[b]? = some (.cells #[.pointer (some ⟨b, 0, none⟩), .slice none 0 0] 65 (0, 0))) (hBw : B ≤ w.heap.size) (hn : n ≤ 281474976710656) :
    Calls Tryz.prog 133 #[.pointer (some ⟨b, 0, none⟩), .int .i64 n] w fun e w' => e = .returned (.tuple #[]) ∧ (Lib.BuilderAt 65 5 B b (.pointer (some ⟨b, 0, none⟩)) [] w' ∧ Below B w w') := by
  obtain ⟨cs, hrun, hle, hmax⟩ := Lib.run_makeNoZero (P := Tryz.prog) w.drew #[3] 63 5 Tryz.underlying63 n hn
  have hw : IntKind.i64.wrap (IntKind.i64.wrap 0 + (n : Int)) = n := by
    rw [IntKind.wrap_i64, IntKind.wrap_i64]
    omega
  have hcall : (callFunc 148 #[.int .i64 (IntKind.i64.wrap (IntKind.i64.wrap 0 + (n : Int)))]).run Tryz.prog w.drew = .ok (.value (.slice (some ⟨w.drew.heap.size, 0, none⟩) n cs.size)) (w.drew.drew.drew.alloc (.cells cs 5)) := by
    rw [hw, run_callFunc_extern Tryz.func148 (by kernel_rfl) (by kernel_rfl) (by kernel_rfl) (e := Extern.BytealgMakeNoZero.makeNoZero #[3] #[63]) (by kernel_rfl), hrun]
    rfl
  have hlt : b < w.heap.size := by
    rcases Nat.lt_or_ge b w.heap.size with h' | h'
    · exact h'
    · simp [Array.getElem?_eq_none h'] at hbk
  have c1 : w.drew.cell? ⟨b, 1, none⟩ = some (.slice none 0 0) := by
    have : w.drew.heap[b]? = _ := hbk
    rw [Lib.cell_of_heap this]; rfl
  have c2 : (w.alloc (.cells cs 5)).cell? ⟨b, 1, none⟩ = some (.slice none 0 0) := by
    have : (w.alloc (.cells cs 5)).heap[b]? = _ := (Lib.alloc_old w _ b hlt).trans hbk
    rw [Lib.cell_of_heap this]; rfl
  have f2 : (w.alloc (.cells cs 5)).frozen? ⟨b, 1, none⟩ = false :=
    Lib.frozen_of_heap ((Lib.alloc_old w _ b hlt).trans hbk) 1
  have hcopy : ∀ W : World, (Builtin.copy_ #[63, 63] 3 #[.slice (some ⟨w.heap.size, 0, none⟩) 0 cs.size, .slice none 0 0]).run Tryz.prog W = .ok (goInt 0) W :=
    fun W => run_copy_none W 63 63 3 5 _ _ 0 cs.size 0 0 Tryz.underlying63 (by kernel_rfl) rfl
  clear hw
  go_enter Tryz.func133, Tryz.ntmps133
  go_wp2_with (fail)
  have hfin := Lib.grown_fresh (T := 65) (e := 5) (cs := cs) hB hbk hBw (hmax (by unfold maxLen; omega)) (by decide)
  rw [World.setCell_alloc_past _ _ _ _ hlt] at hfin
  go_region
  all_goals (go_wp2; go_end0; exact ⟨rfl, hfin⟩)

set_option maxHeartbeats 2000000 in
set_option maxRecDepth 100000 in
theorem Grow_fresh (B b n : Nat) (w : World) (hB : B ≤ b) (hbk : w.heap[b]? = some (.cells #[.pointer none, .slice none 0 0] 65 (0, 0))) (hBw : B ≤ w.heap.size) (hn : n ≤ 281474976710656) :
    Calls Tryz.prog 103 #[.pointer (some ⟨b, 0, none⟩), .int .i64 n] w fun e w' => e = .returned (.tuple #[]) ∧ (Lib.BuilderAt 65 5 B b (.pointer (some ⟨b, 0, none⟩)) [] w' ∧ Below B w w') := by
  have hbk1 : (w.setCell ⟨b, 0, none⟩ (.pointer (some ⟨b, 0, none⟩))).heap[b]? = some (.cells #[.pointer (some ⟨b, 0, none⟩), .slice none 0 0] 65 (0, 0)) := by
    simp [World.setCell, Array.getElem?_modify, hbk]
  have c1 : (w.setCell ⟨b, 0, none⟩ (.pointer (some ⟨b, 0, none⟩))).cell? ⟨b, 1, none⟩ = some (.slice none 0 0) := by rw [Lib.cell_of_heap hbk1]; rfl
  have hb1 : Below B w (w.setCell ⟨b, 0, none⟩ (.pointer (some ⟨b, 0, none⟩))) := (Below.refl B w).setCell (p := ⟨b, 0, none⟩) hB _
  go_enter Tryz.func103, Tryz.ntmps103
  have hU : Lib.BuilderAt 65 5 B b (.pointer (some ⟨b, 0, none⟩)) [] (w.setCell ⟨b, 0, none⟩ (.pointer (some ⟨b, 0, none⟩))) := ⟨hB, .slice none 0 0, hbk1, World.ownsRow_nil _ _ _ _, by simp [Value.ownBlock]⟩
  have c1' : (w.setCell ⟨b, 0, none⟩ (.pointer (some ⟨b, 0, none⟩))).drew.cell? ⟨b, 1, none⟩ = some (.slice none 0 0) := c1
  go_wp2_with (go_at_call 91; refine (copyCheck_fresh b w (by rw [Lib.cell_of_heap hbk]; rfl) (by simp [World.shape?, hbk]) (Lib.frozen_of_heap hbk 0)).mono ?_; rintro e w' ⟨rfl, rfl⟩)
  go_region
  all_goals go_wp2_with (go_at_call 133; refine (grow_fresh B b n (w.setCell ⟨b, 0, none⟩ (.pointer (some ⟨b, 0, none⟩))).drew hB hbk1 (by simpa [World.setCell, World.drew, -World.drew_eq] using hBw) hn).mono ?_; rintro e w' ⟨rfl, h1, h2⟩)
  all_goals first
    | (go_end0; exact ⟨rfl, h1, hb1.drew.trans h2⟩)
    | (go_end0; exact ⟨rfl, hU.drew, hb1.drew⟩)
end Go.Proofs.YtjajoiahgfafgaaGreatDoor
end

/- strings.Join: texts one behind the other, a separator between them. -/
section
namespace Go.Proofs.YtjajoiahgfafgaaGreatDoor
open Go.RowKit

theorem add_zero' (a : Addr) : a.add 0 = a := by simp [Addr.add]


end Go.Proofs.YtjajoiahgfafgaaGreatDoor
end

/- name.Within, Join. -/
section
namespace Go.Proofs.YtjajoiahgfafgaaGreatDoor
open Go.RowKit Plain


theorem Count_any (s : List UInt8) (w : World) :
    Calls Tryz.prog 92 #[.string ⟨s.toArray⟩, .string ⟨#[47]⟩] w fun e w' => e = .returned (.int .i64 (s.count 47 : Nat)) ∧ w' = w := Tryz.strings_Count_one ⟨s.toArray⟩ 47 w
def joinOK (l : List (List UInt8)) : Bool := pathOK (joinS l) && (joinS l).count 47 == l.length - 1 && decide (1 ≤ l.length)
end Go.Proofs.YtjajoiahgfafgaaGreatDoor
end

/- name.Order. -/
section
namespace Go.Proofs.YtjajoiahgfafgaaGreatDoor
open Go.RowKit Plain

theorem bl_lt : ∀ (a b : List UInt8), Op.bytesLess a b = decide (a < b)
  | [], [] => rfl
  | [], _ :: _ => by simp [Op.bytesLess]
  | _ :: _, [] => rfl
  | x :: a, y :: b => by
    show (decide (x < y) || (x == y && Op.bytesLess a b)) = _
    rw [bl_lt a b, Bool.eq_iff_iff]
    simp only [Bool.or_eq_true, Bool.and_eq_true, decide_eq_true_eq, beq_iff_eq, List.cons_lt_cons_iff]

def cmpM (a b : List UInt8) : Int := if a < b then -1 else if b < a then 1 else 0
theorem isNaN_any (x : List UInt8) (w : World) : Calls Tryz.prog 126 #[.string ⟨x.toArray⟩] w (Ret w (.bool false)) := by
  go_enter Tryz.func126, Tryz.ntmps126
  go_wp2_with (fail)
  go_ret
  exact ⟨by simp, Below.refl _ _⟩
theorem Compare_any (x y : List UInt8) (w : World) : Calls Tryz.prog 97 #[.string ⟨x.toArray⟩, .string ⟨y.toArray⟩] w (Ret w (.int .i64 (cmpM x y))) := by
  have HN := Lib.hid (fun z W => isNaN_any z W)
  by_cases h1 : x < y
  · have hc : cmpM x y = -1 := by unfold cmpM; rw [if_pos h1]
    have hb : Op.bytesLess x y = true := by rw [bl_lt]; exact decide_eq_true h1
    rw [hc]
    clear h1 hc
    go_enter Tryz.func97, Tryz.ntmps97
    go_wp2_with (fail)
    refine (HN.out x _).mono ?_
    rintro e w1 ⟨rfl, hw1⟩
    go_wp2_with (fail)
    refine (HN.out y _).mono ?_
    rintro e w2 ⟨rfl, hw2⟩
    go_wp2_with (fail)
    go_ret
    exact ⟨rfl, hw1.trans (hw2.mono hw1.size)⟩
  · have hb : Op.bytesLess x y = false := by rw [bl_lt]; exact decide_eq_false h1
    by_cases h2 : y < x
    · have hc : cmpM x y = 1 := by unfold cmpM; rw [if_neg h1, if_pos h2]
      have hb2 : (x == y) = false := by simp; rintro rfl; exact h1 h2
      rw [hc]
      clear h1 h2 hc
      go_enter Tryz.func97, Tryz.ntmps97
      go_wp2_with (fail)
      refine (HN.out x _).mono ?_
      rintro e w1 ⟨rfl, hw1⟩
      go_wp2_with (fail)
      refine (HN.out y _).mono ?_
      rintro e w2 ⟨rfl, hw2⟩
      go_wp2_with (fail)
      go_ret
      exact ⟨rfl, hw1.trans (hw2.mono hw1.size)⟩
    · have hc : cmpM x y = 0 := by unfold cmpM; rw [if_neg h1, if_neg h2]
      have hb2 : (x == y) = true := by simp; exact eq_of_not_lt h1 h2
      rw [hc]
      clear h1 h2 hc
      go_enter Tryz.func97, Tryz.ntmps97
      go_wp2_with (fail)
      refine (HN.out x _).mono ?_
      rintro e w1 ⟨rfl, hw1⟩
      go_wp2_with (fail)
      refine (HN.out y _).mono ?_
      rintro e w2 ⟨rfl, hw2⟩
      go_wp2_with (fail)
      go_ret
      exact ⟨rfl, hw1.trans (hw2.mono hw1.size)⟩

theorem sCut_hit (p r : List UInt8) (w : World) (hp : 47 ∉ p) (hs : (p ++ 47 :: r).length ≤ 9223372036854775807) :
    Calls Tryz.prog 125 #[.string ⟨(p ++ 47 :: r).toArray⟩, .string ⟨#[47]⟩] w (Ret w (.tuple #[.string ⟨p.toArray⟩, .string ⟨r.toArray⟩, .bool true])) := by
  have h := Tryz.stringslite_Index_one ⟨(p ++ 47 :: r).toArray⟩ 47 w
  rw [show (ByteArray.mk (p ++ 47 :: r).toArray).data.toList = p ++ 47 :: r from rfl, ib_first p r hp] at h
  have HI := Lib.hid h
  have hd : (p ++ 47 :: r).drop (p.length + 1) = r := by rw [← List.drop_drop, List.drop_left' rfl]; rfl
  have hd2 : r.take ((p ++ 47 :: r).length - (p.length + 1)) = r := List.take_of_length_le (by simp; omega)
  have ht : (p ++ 47 :: r).take p.length = p := by simp
  have hpl : p.length + 1 ≤ (p ++ 47 :: r).length := by simp
  clear h
  generalize p ++ 47 :: r = s at *
  go_enter Tryz.func125, Tryz.ntmps125
  go_wp2_with (fail)
  refine HI.out.mono ?_
  rintro e w1 ⟨rfl, rfl⟩
  go_wp2_with (fail)
  have e1 : IntKind.i64.wrap ((p.length : Int) + 1) = (p.length : Int) + 1 := IntWalk.i64_in _ (by omega)
  have e2 : ((p.length : Int) + 1).toNat = p.length + 1 := by omega
  have e3 : (0 : Int) ≤ (p.length : Int) + 1 := by omega
  refine wp_region_below (by kernel_rfl) (by kernel_rfl) ?_
  repeat (go_big_quiet_step (fail))
  refine wpQuiet_nil ?_
  intro W2 hW2
  clear e1 e2 e3
  go_wp2_with (fail)
  go_ret3
  exact ⟨rfl, hW2⟩
theorem sCut_miss (s : List UInt8) (w : World) (hp : 47 ∉ s) (hs : s.length ≤ 9223372036854775807) :
    Calls Tryz.prog 125 #[.string ⟨s.toArray⟩, .string ⟨#[47]⟩] w (Ret w (.tuple #[.string ⟨s.toArray⟩, .string ⟨#[]⟩, .bool false])) := by
  have h := Tryz.stringslite_Index_one ⟨s.toArray⟩ 47 w
  rw [show (ByteArray.mk s.toArray).data.toList = s from rfl, ib_none hp] at h
  have HI := Lib.hid h
  clear h
  go_enter Tryz.func125, Tryz.ntmps125
  go_wp2_with (fail)
  refine HI.out.mono ?_
  rintro e w1 ⟨rfl, rfl⟩
  go_wp2_with (fail)
  go_ret3
  exact ⟨rfl, Below.refl _ _⟩
theorem Cut_hit (p r : List UInt8) (w : World) (hp : 47 ∉ p) (hs : (p ++ 47 :: r).length ≤ 9223372036854775807) :
    Calls Tryz.prog 96 #[.string ⟨(p ++ 47 :: r).toArray⟩, .string ⟨#[47]⟩] w (Ret w (.tuple #[.string ⟨p.toArray⟩, .string ⟨r.toArray⟩, .bool true])) := by
  have HC := Lib.hid (sCut_hit p r w hp hs)
  clear hs
  generalize p ++ 47 :: r = s at *
  go_enter Tryz.func96, Tryz.ntmps96
  go_wp2_with (fail)
  refine HC.out.mono ?_
  rintro e w1 ⟨rfl, hw1⟩
  go_wp2_with (fail)
  go_ret3
  exact ⟨rfl, hw1⟩
theorem Cut_miss (s : List UInt8) (w : World) (hp : 47 ∉ s) (hs : s.length ≤ 9223372036854775807) :
    Calls Tryz.prog 96 #[.string ⟨s.toArray⟩, .string ⟨#[47]⟩] w (Ret w (.tuple #[.string ⟨s.toArray⟩, .string ⟨#[]⟩, .bool false])) := by
  have HC := Lib.hid (sCut_miss s w hp hs)
  clear hs
  go_enter Tryz.func96, Tryz.ntmps96
  go_wp2_with (fail)
  refine HC.out.mono ?_
  rintro e w1 ⟨rfl, hw1⟩
  go_wp2_with (fail)
  go_ret3
  exact ⟨rfl, hw1⟩

theorem cmp_cases (x y : List UInt8) : (x < y ∧ cmpM x y = -1) ∨ (¬ x < y ∧ y < x ∧ cmpM x y = 1) ∨ (x = y ∧ cmpM x y = 0) := by
  unfold cmpM
  by_cases h1 : x < y
  · exact .inl ⟨h1, if_pos h1⟩
  · by_cases h2 : y < x
    · exact .inr (.inl ⟨h1, h2, by rw [if_neg h1, if_pos h2]⟩)
    · exact .inr (.inr ⟨eq_of_not_lt h1 h2, by rw [if_neg h1, if_neg h2]⟩)
theorem orderP_lt {x y : List UInt8} (xs ys : List (List UInt8)) (h : x < y) : orderP (x :: xs) (y :: ys) = -1 := by unfold orderP; rw [if_pos h]
theorem orderP_gt {x y : List UInt8} (xs ys : List (List UInt8)) (h1 : ¬ x < y) (h : y < x) : orderP (x :: xs) (y :: ys) = 1 := by unfold orderP; rw [if_neg h1, if_pos h]
theorem orderP_eq (x : List UInt8) (xs ys : List (List UInt8)) : orderP (x :: xs) (x :: ys) = orderP xs ys := by
  show (if x < x then (-1 : Int) else if x < x then 1 else orderP xs ys) = _
  rw [if_neg (lt_irrefl' x), if_neg (lt_irrefl' x)]
theorem orderP_nil {l : List (List UInt8)} (h : l ≠ []) : orderP [] l = -1 := by cases l; exact absurd rfl h; rfl
theorem orderP_nil' {l : List (List UInt8)} (h : l ≠ []) : orderP l [] = 1 := by cases l; exact absurd rfl h; rfl

set_option maxHeartbeats 4000000 in
theorem Order_any (a b : List UInt8) (w : World) (ha : a.length ≤ 9223372036854775807) (hb : b.length ≤ 9223372036854775807) :
    Calls Tryz.prog 73 #[.string ⟨a.toArray⟩, .string ⟨b.toArray⟩] w (Ret w (.int .i64 (orderM a b))) := by
  go_enter Tryz.func73, Tryz.ntmps73
  go_wp2_with (fail)
  go_loopw [0, 1] (fun t0 t1 W => ∃ x y : List UInt8, t0 = .string ⟨x.toArray⟩ ∧ t1 = .string ⟨y.toArray⟩ ∧ x.length ≤ 9223372036854775807 ∧ y.length ≤ 9223372036854775807 ∧ Hid (orderM a b = orderM x y) ∧ Hid (Below w.heap.size w W)) (fun t0 _ _ => match t0 with | .string s => s.size | _ => 0)
  case atStart => exact ⟨a, b, rfl, rfl, ha, hb, Lib.hid rfl, Lib.hid (Below.refl _ _)⟩
  case round =>
    obtain ⟨x, y, rfl, rfl, hx, hy, HO, HB⟩ := hrel
    cases hxy : x == y with
    | true =>
      have HE := Lib.hid (show orderM x y = 0 by rw [beq_iff_eq] at hxy; rw [hxy]; exact orderP_self _)
      go_wp2_with (fail)
      go_ret
      exact ⟨by rw [HO.out, HE.out]; rfl, HB.out⟩
    | false =>
      have HNE := Lib.hid (show x ≠ y by simpa using hxy)
      by_cases h1 : 47 ∈ x
      · by_cases h2 : 47 ∈ y
        · obtain ⟨p, r, rfl, hp⟩ := first_c x h1
          have hpx := parts_first p r hp
          have HCX := Lib.hid (fun W => Cut_hit p r W hp hx)
          obtain ⟨q, s, rfl, hq⟩ := first_c y h2
          have hpy := parts_first q s hq
          have HCY := Lib.hid (fun W => Cut_hit q s W hq hy)
          have hx2 : p.length + 1 + r.length ≤ 9223372036854775807 := by simp at hx; omega
          have hy2 : q.length + 1 + s.length ≤ 9223372036854775807 := by simp at hy; omega
          have hor : orderM (p ++ 47 :: r) (q ++ 47 :: s) = orderP (p :: (parts r)) (q :: (parts s)) := by unfold orderM; rw [hpx, hpy]
          have hC := fun W => Compare_any p q W
          rcases cmp_cases p q with ⟨c1, cv⟩ | ⟨c1, c2, cv⟩ | ⟨c1, cv⟩
          · have HR := Lib.hid (hor.trans (orderP_lt _ _ c1))
            rw [cv] at hC
            have HC := Lib.hid hC
            clear hor hpx hpy cv h1 h2 hp hq c1 hC
            go_wp2_with (fail)
            refine (HCX.out wr).mono ?_
            rintro e w1 ⟨rfl, hw1⟩
            have hb1 := HB.out.trans (hw1.mono HB.out.size)
            clear hw1
            go_wp2_with (fail)
            refine (HCY.out w1).mono ?_
            rintro e w2 ⟨rfl, hw2⟩
            have hb2 := hb1.trans (hw2.mono hb1.size)
            clear hw2 hb1
            go_wp2_with (fail)
            refine (HC.out w2).mono ?_
            rintro e w3 ⟨rfl, hw3⟩
            have HB3 := Lib.hid (hb2.trans (hw3.mono hb2.size))
            clear hw3 hb2
            go_wp2_with (fail)
            go_ret
            exact ⟨by rw [HO.out, HR.out]; rfl, HB3.out⟩
          · have HR := Lib.hid (hor.trans (orderP_gt _ _ c1 c2))
            rw [cv] at hC
            have HC := Lib.hid hC
            clear hor hpx hpy cv h1 h2 hp hq c1 c2 hC
            go_wp2_with (fail)
            refine (HCX.out wr).mono ?_
            rintro e w1 ⟨rfl, hw1⟩
            have hb1 := HB.out.trans (hw1.mono HB.out.size)
            clear hw1
            go_wp2_with (fail)
            refine (HCY.out w1).mono ?_
            rintro e w2 ⟨rfl, hw2⟩
            have hb2 := hb1.trans (hw2.mono hb1.size)
            clear hw2 hb1
            go_wp2_with (fail)
            refine (HC.out w2).mono ?_
            rintro e w3 ⟨rfl, hw3⟩
            have HB3 := Lib.hid (hb2.trans (hw3.mono hb2.size))
            clear hw3 hb2
            go_wp2_with (fail)
            go_ret
            exact ⟨by rw [HO.out, HR.out]; rfl, HB3.out⟩
          · have HR := Lib.hid (hor.trans (show orderP (p :: parts r) (q :: parts s) = orderM r s by rw [c1]; exact orderP_eq _ _ _))
            rw [cv] at hC
            have HC := Lib.hid hC
            clear hor hpx hpy cv h1 h2 hp hq c1 hC
            go_wp2_with (fail)
            refine (HCX.out wr).mono ?_
            rintro e w1 ⟨rfl, hw1⟩
            have hb1 := HB.out.trans (hw1.mono HB.out.size)
            clear hw1
            go_wp2_with (fail)
            refine (HCY.out w1).mono ?_
            rintro e w2 ⟨rfl, hw2⟩
            have hb2 := hb1.trans (hw2.mono hb1.size)
            clear hw2 hb1
            go_wp2_with (fail)
            refine (HC.out w2).mono ?_
            rintro e w3 ⟨rfl, hw3⟩
            have HB3 := Lib.hid (hb2.trans (hw3.mono hb2.size))
            clear hw3 hb2
            go_wp2_with (fail)
            go_roundw
            case rel => exact ⟨r, s, rfl, rfl, by omega, by omega, Lib.hid (by rw [HO.out, HR.out]), HB3⟩
            case measure => simp [ByteArray.size]; omega

        · obtain ⟨p, r, rfl, hp⟩ := first_c x h1
          have hpx := parts_first p r hp
          have HCX := Lib.hid (fun W => Cut_hit p r W hp hx)
          have hpy := parts_none y h2
          have HCY := Lib.hid (fun W => Cut_miss y W h2 hy)
          have hx2 : p.length + 1 + r.length ≤ 9223372036854775807 := by simp at hx; omega
          have hor : orderM (p ++ 47 :: r) y = orderP (p :: (parts r)) (y :: []) := by unfold orderM; rw [hpx, hpy]
          have hC := fun W => Compare_any p y W
          rcases cmp_cases p y with ⟨c1, cv⟩ | ⟨c1, c2, cv⟩ | ⟨c1, cv⟩
          · have HR := Lib.hid (hor.trans (orderP_lt _ _ c1))
            rw [cv] at hC
            have HC := Lib.hid hC
            clear hor hpx hpy cv h1 h2 hp c1 hC
            go_wp2_with (fail)
            refine (HCX.out wr).mono ?_
            rintro e w1 ⟨rfl, hw1⟩
            have hb1 := HB.out.trans (hw1.mono HB.out.size)
            clear hw1
            go_wp2_with (fail)
            refine (HCY.out w1).mono ?_
            rintro e w2 ⟨rfl, hw2⟩
            have hb2 := hb1.trans (hw2.mono hb1.size)
            clear hw2 hb1
            go_wp2_with (fail)
            refine (HC.out w2).mono ?_
            rintro e w3 ⟨rfl, hw3⟩
            have HB3 := Lib.hid (hb2.trans (hw3.mono hb2.size))
            clear hw3 hb2
            go_wp2_with (fail)
            go_ret
            exact ⟨by rw [HO.out, HR.out]; rfl, HB3.out⟩
          · have HR := Lib.hid (hor.trans (orderP_gt _ _ c1 c2))
            rw [cv] at hC
            have HC := Lib.hid hC
            clear hor hpx hpy cv h1 h2 hp c1 c2 hC
            go_wp2_with (fail)
            refine (HCX.out wr).mono ?_
            rintro e w1 ⟨rfl, hw1⟩
            have hb1 := HB.out.trans (hw1.mono HB.out.size)
            clear hw1
            go_wp2_with (fail)
            refine (HCY.out w1).mono ?_
            rintro e w2 ⟨rfl, hw2⟩
            have hb2 := hb1.trans (hw2.mono hb1.size)
            clear hw2 hb1
            go_wp2_with (fail)
            refine (HC.out w2).mono ?_
            rintro e w3 ⟨rfl, hw3⟩
            have HB3 := Lib.hid (hb2.trans (hw3.mono hb2.size))
            clear hw3 hb2
            go_wp2_with (fail)
            go_ret
            exact ⟨by rw [HO.out, HR.out]; rfl, HB3.out⟩
          · have HR := Lib.hid (hor.trans (show orderP (p :: parts r) (y :: []) = 1 by rw [c1, orderP_eq]; exact orderP_nil' (parts_ne r)))
            rw [cv] at hC
            have HC := Lib.hid hC
            clear hor hpx hpy cv h1 h2 hp c1 hC
            go_wp2_with (fail)
            refine (HCX.out wr).mono ?_
            rintro e w1 ⟨rfl, hw1⟩
            have hb1 := HB.out.trans (hw1.mono HB.out.size)
            clear hw1
            go_wp2_with (fail)
            refine (HCY.out w1).mono ?_
            rintro e w2 ⟨rfl, hw2⟩
            have hb2 := hb1.trans (hw2.mono hb1.size)
            clear hw2 hb1
            go_wp2_with (fail)
            refine (HC.out w2).mono ?_
            rintro e w3 ⟨rfl, hw3⟩
            have HB3 := Lib.hid (hb2.trans (hw3.mono hb2.size))
            clear hw3 hb2
            go_wp2_with (fail)
            go_ret
            exact ⟨by rw [HO.out, HR.out]; rfl, HB3.out⟩

      · by_cases h2 : 47 ∈ y
        · have hpx := parts_none x h1
          have HCX := Lib.hid (fun W => Cut_miss x W h1 hx)
          obtain ⟨q, s, rfl, hq⟩ := first_c y h2
          have hpy := parts_first q s hq
          have HCY := Lib.hid (fun W => Cut_hit q s W hq hy)
          have hy2 : q.length + 1 + s.length ≤ 9223372036854775807 := by simp at hy; omega
          have hor : orderM x (q ++ 47 :: s) = orderP (x :: []) (q :: (parts s)) := by unfold orderM; rw [hpx, hpy]
          have hC := fun W => Compare_any x q W
          rcases cmp_cases x q with ⟨c1, cv⟩ | ⟨c1, c2, cv⟩ | ⟨c1, cv⟩
          · have HR := Lib.hid (hor.trans (orderP_lt _ _ c1))
            rw [cv] at hC
            have HC := Lib.hid hC
            clear hor hpx hpy cv h1 h2 hq c1 hC
            go_wp2_with (fail)
            refine (HCX.out wr).mono ?_
            rintro e w1 ⟨rfl, hw1⟩
            have hb1 := HB.out.trans (hw1.mono HB.out.size)
            clear hw1
            go_wp2_with (fail)
            refine (HCY.out w1).mono ?_
            rintro e w2 ⟨rfl, hw2⟩
            have hb2 := hb1.trans (hw2.mono hb1.size)
            clear hw2 hb1
            go_wp2_with (fail)
            refine (HC.out w2).mono ?_
            rintro e w3 ⟨rfl, hw3⟩
            have HB3 := Lib.hid (hb2.trans (hw3.mono hb2.size))
            clear hw3 hb2
            go_wp2_with (fail)
            go_ret
            exact ⟨by rw [HO.out, HR.out]; rfl, HB3.out⟩
          · have HR := Lib.hid (hor.trans (orderP_gt _ _ c1 c2))
            rw [cv] at hC
            have HC := Lib.hid hC
            clear hor hpx hpy cv h1 h2 hq c1 c2 hC
            go_wp2_with (fail)
            refine (HCX.out wr).mono ?_
            rintro e w1 ⟨rfl, hw1⟩
            have hb1 := HB.out.trans (hw1.mono HB.out.size)
            clear hw1
            go_wp2_with (fail)
            refine (HCY.out w1).mono ?_
            rintro e w2 ⟨rfl, hw2⟩
            have hb2 := hb1.trans (hw2.mono hb1.size)
            clear hw2 hb1
            go_wp2_with (fail)
            refine (HC.out w2).mono ?_
            rintro e w3 ⟨rfl, hw3⟩
            have HB3 := Lib.hid (hb2.trans (hw3.mono hb2.size))
            clear hw3 hb2
            go_wp2_with (fail)
            go_ret
            exact ⟨by rw [HO.out, HR.out]; rfl, HB3.out⟩
          · have HR := Lib.hid (hor.trans (show orderP (x :: []) (q :: parts s) = -1 by rw [c1, orderP_eq]; exact orderP_nil (parts_ne s)))
            rw [cv] at hC
            have HC := Lib.hid hC
            clear hor hpx hpy cv h1 h2 hq c1 hC
            go_wp2_with (fail)
            refine (HCX.out wr).mono ?_
            rintro e w1 ⟨rfl, hw1⟩
            have hb1 := HB.out.trans (hw1.mono HB.out.size)
            clear hw1
            go_wp2_with (fail)
            refine (HCY.out w1).mono ?_
            rintro e w2 ⟨rfl, hw2⟩
            have hb2 := hb1.trans (hw2.mono hb1.size)
            clear hw2 hb1
            go_wp2_with (fail)
            refine (HC.out w2).mono ?_
            rintro e w3 ⟨rfl, hw3⟩
            have HB3 := Lib.hid (hb2.trans (hw3.mono hb2.size))
            clear hw3 hb2
            go_wp2_with (fail)
            go_ret
            exact ⟨by rw [HO.out, HR.out]; rfl, HB3.out⟩

        · have hpx := parts_none x h1
          have HCX := Lib.hid (fun W => Cut_miss x W h1 hx)
          have hpy := parts_none y h2
          have HCY := Lib.hid (fun W => Cut_miss y W h2 hy)
          have hor : orderM x y = orderP (x :: []) (y :: []) := by unfold orderM; rw [hpx, hpy]
          have hC := fun W => Compare_any x y W
          rcases cmp_cases x y with ⟨c1, cv⟩ | ⟨c1, c2, cv⟩ | ⟨c1, cv⟩
          · have HR := Lib.hid (hor.trans (orderP_lt _ _ c1))
            rw [cv] at hC
            have HC := Lib.hid hC
            clear hor hpx hpy cv h1 h2 c1 hC
            go_wp2_with (fail)
            refine (HCX.out wr).mono ?_
            rintro e w1 ⟨rfl, hw1⟩
            have hb1 := HB.out.trans (hw1.mono HB.out.size)
            clear hw1
            go_wp2_with (fail)
            refine (HCY.out w1).mono ?_
            rintro e w2 ⟨rfl, hw2⟩
            have hb2 := hb1.trans (hw2.mono hb1.size)
            clear hw2 hb1
            go_wp2_with (fail)
            refine (HC.out w2).mono ?_
            rintro e w3 ⟨rfl, hw3⟩
            have HB3 := Lib.hid (hb2.trans (hw3.mono hb2.size))
            clear hw3 hb2
            go_wp2_with (fail)
            go_ret
            exact ⟨by rw [HO.out, HR.out]; rfl, HB3.out⟩
          · have HR := Lib.hid (hor.trans (orderP_gt _ _ c1 c2))
            rw [cv] at hC
            have HC := Lib.hid hC
            clear hor hpx hpy cv h1 h2 c1 c2 hC
            go_wp2_with (fail)
            refine (HCX.out wr).mono ?_
            rintro e w1 ⟨rfl, hw1⟩
            have hb1 := HB.out.trans (hw1.mono HB.out.size)
            clear hw1
            go_wp2_with (fail)
            refine (HCY.out w1).mono ?_
            rintro e w2 ⟨rfl, hw2⟩
            have hb2 := hb1.trans (hw2.mono hb1.size)
            clear hw2 hb1
            go_wp2_with (fail)
            refine (HC.out w2).mono ?_
            rintro e w3 ⟨rfl, hw3⟩
            have HB3 := Lib.hid (hb2.trans (hw3.mono hb2.size))
            clear hw3 hb2
            go_wp2_with (fail)
            go_ret
            exact ⟨by rw [HO.out, HR.out]; rfl, HB3.out⟩
          · exact absurd c1 HNE.out

end Go.Proofs.YtjajoiahgfafgaaGreatDoor
end

/- The order of a node against a path. -/
section
set_option linter.unusedVariables false
namespace Go.Proofs.YtjajoiahgfafgaaGreatDoor
open Go.RowKit Plain

set_option maxHeartbeats 400000 in
set_option maxRecDepth 100000 in
theorem place1_any (n : Nd) (s : List UInt8) (w : World) (hp : n.path.length ≤ 9223372036854775807) (hs : s.length ≤ 9223372036854775807) :
    Calls Tryz.prog 128 #[.agg (ndV n).toArray, .string ⟨s.toArray⟩] w (Ret w (.int .i64 (orderM n.path s))) := by
  obtain ⟨p, k, d, m⟩ := n
  unfold ndV
  simp only at hp ⊢
  have HO := Lib.hid (fun W => Order_any p s W hp hs)
  go_enter Tryz.func128, Tryz.ntmps128
  go_wp2_with (go_at_call 73; refine (HO.out _).mono ?_; rintro e w1 ⟨rfl, hb⟩)
  go_ret
  exact ⟨rfl, ((Below.refl _ _).alloc (Nat.le_refl _) _).trans (hb.mono (by simp))⟩
end Go.Proofs.YtjajoiahgfafgaaGreatDoor
end

/- Where a binary search over paths in their order comes to. -/
section
set_option linter.unusedVariables false
namespace Go.Proofs.YtjajoiahgfafgaaGreatDoor
namespace Plain
theorem search_end {t : List Nd} {s : List UInt8} {lo : Nat} (hs : Srt t) (h1 : ∀ j, j < lo → orderM (t.getD j default).path s < 0) (h2 : ∀ j, lo ≤ j → j < t.length → 0 ≤ orderM (t.getD j default).path s) :
    findN t s = if lo < t.length ∧ orderM (t.getD lo default).path s = 0 then some (t.getD lo default) else none := by
  by_cases hc : lo < t.length ∧ orderM (t.getD lo default).path s = 0
  · rw [if_pos hc]
    exact findN_at hs hc.1 ((order_zero' _ _).1 hc.2)
  · rw [if_neg hc, findN_none]
    intro j hj e
    have h0 : orderM (t.getD j default).path s = 0 := (order_zero' _ _).2 e
    rcases Nat.lt_trichotomy j lo with q | q | q
    · have := h1 j q
      omega
    · subst q
      exact hc ⟨hj, h0⟩
    · have h3 := hs lo j q hj
      rw [e] at h3
      have := h2 lo (Nat.le_refl _) (by omega)
      omega
/-- a place ahead, and all ahead of it -/
theorem search_less {t : List Nd} {s : List UInt8} {k : Nat} (hs : Srt t) (hk : k < t.length) (h : orderM (t.getD k default).path s < 0) : ∀ j, j < k + 1 → orderM (t.getD j default).path s < 0 := by
  intro j hj
  by_cases e : j = k
  · rw [e]; exact h
  · exact order_trans' _ _ _ (hs j k (by omega) hk) h
/-- a place that is not ahead, and all behind it -/
theorem search_more {t : List Nd} {s : List UInt8} {k : Nat} (hs : Srt t) (h : 0 ≤ orderM (t.getD k default).path s) : ∀ j, k ≤ j → j < t.length → 0 ≤ orderM (t.getD j default).path s := by
  intro j hj hl
  by_cases e : j = k
  · rw [e]; exact h
  · have h3 := hs k j (by omega) hl
    refine Int.not_lt.1 fun q => ?_
    have := order_trans' _ _ _ h3 q
    omega
end Plain
end Go.Proofs.YtjajoiahgfafgaaGreatDoor
end

/- The closing of a law's statement: whatever the law's arguments, it answers true and leaves old memory as it was. -/
section
namespace Go.Proofs.YtjajoiahgfafgaaGreatDoor
open Go.ChangeShapes Go.WideShapes Go.ChangeAt Go.RowKit

theorem own : ownKnob Tryz.prog.godebug = none := by kernel_rfl
theorem laidOut : laidOutB Tryz.prog = true := by kernel_rfl

section
variable {H : Type} {enc : TypeId × Value → H} {P : Program}
theorem trodAll_below (hl : laidOutB P = true) {W W' : World} (hb : Below W.heap.size W W') : ∀ {ts : List TypeId} {vs : List Value} {ds : List (DataW H)} {ps : List MemPlace},
    DataW.TrodAll enc P W 0 (fun _ => true) true ts vs ds ps → (ts.all fun t => P.readableRec t && decide (t < P.types.size)) = true → (∀ x ∈ ps, x.block < W.heap.size) →
    DataW.TrodAll enc P W' 0 (fun b => decide (b < W.heap.size)) true ts vs ds ps
  | [], [], [], _, h, _, _ => h
  | t :: ts, v :: vs, d :: ds, ps, h, hr, hlt => by
    obtain ⟨p, q, h1, h2, rfl⟩ := h
    simp only [List.all_cons, Bool.and_eq_true, decide_eq_true_eq] at hr
    exact ⟨p, q, Below.trod hl hr.1.1 hr.1.2 h1 hb (fun x hx => hlt x (List.mem_append_left _ hx)), trodAll_below hl hb h2 (by simpa using hr.2) (fun x hx => hlt x (List.mem_append_right _ hx)), rfl⟩
  | [], [], _ :: _, _, h, _, _ => h.elim
  | [], _ :: _, _, _, h, _, _ => h.elim
  | _ :: _, [], _, _, h, _, _ => h.elim
  | _ :: _, _ :: _, [], _, h, _, _ => h.elim

theorem law_post {f : Func} {s : ChangeSpec} {W W' : World} {args : Array Value} {ds gs : List (DataW H)} {before : List MemPlace} {tb : TypeId}
    (hvars : s.vars = []) (hW : DataW.Whole enc P f.params.toList s.vars false W args.toList ds gs before)
    (hfn : s.fn H (ds ++ gs) = { results := [.lit (.bool true)], args := ds }) (hres : f.resultTypes = #[tb]) (htb : P.underlying tb = some .bool)
    (hread : (f.params.toList.all fun t => P.readableRec t && decide (t < P.types.size)) = true) (hl : laidOutB P = true) (hb : Below W.heap.size W W') :
    s.post enc P f false true false false W args (.bool true) W' := by
  have hW' := hW
  obtain ⟨p, q, hA, hV, hpq, hfz, hnd⟩ := hW
  refine ⟨ds, gs, before, [], p, [], hW', ?_, ?_, ?_, ?_, fun h => by cases h⟩
  · rw [hfn, hres]
    exact trodAll_mk1 (shut_bool htb _)
  · rw [hfn]
    exact trodAll_below hl hb hA hread (fun x hx => hW'.lt x (by rw [hpq]; exact List.mem_append_left _ hx))
  · rw [hfn, hvars]
    exact rfl
  · exact hb.frame _
end

end Go.Proofs.YtjajoiahgfafgaaGreatDoor
end

/- Opening of arguments: lists of texts; what the bound of the second form gives. -/
section
namespace Go.Proofs.YtjajoiahgfafgaaGreatDoor
open Go.ChangeShapes Go.WideShapes Go.ChangeAt Go.RowKit

section
variable {H : Type} {enc : TypeId × Value → H} {P : Program} {w : World} {base : Nat} {held : Bool}

theorem toList_mk (s : ByteArray) : (⟨s.data.toList.toArray⟩ : ByteArray) = s := by cases s; simp

/-- A []string among the arguments: the texts that it reads as. -/
theorem open_texts {r : Reach} {b0 : Nat} {t e : TypeId} {v : Value} {d : DataW H} {ps : List MemPlace} (ht : P.underlying t = some (.slice e)) (he : P.underlying e = some .string) (hc : P.cellsOf e = 1)
    (hval : Value.okWide P w r b0 t v) (hd : DataW.Trod enc P w base (fun _ => true) held t v d ps) :
    ∃ A c, ∃ l : List (List UInt8), v = .slice A l.length c ∧ l.length ≤ c ∧ c ≤ maxLen ∧ Reads w 1 A l.length (strs l) ∧ (∀ s ∈ l, s.length ≤ maxLen) ∧
      ((d = .nil ∧ l = []) ∨ ∃ sp, d = .slice (l.map fun s => .lit (.string s)) sp) := by
  obtain ⟨a0, len, cap, rfl⟩ := okWide_slice ht hval
  obtain ⟨fuel, hf⟩ := hd
  rcases open_strings ht he hc hf with ⟨hcs, hx⟩ | ⟨a, len', cap', ss, hcs, _, hl, hm, hz, hx, hcell, hws⟩
  · simp [Value.cells] at hcs
    obtain ⟨rfl, rfl, rfl⟩ := hcs
    simp only [Prod.mk.injEq] at hx
    exact ⟨none, 0, [], rfl, Nat.le_refl _, Nat.zero_le _, Reads.nil _ _ _, by simp, .inl ⟨hx.1, rfl⟩⟩
  · simp [Value.cells] at hcs
    obtain ⟨rfl, rfl, rfl⟩ := hcs
    simp only [if_true] at hz
    simp only [Prod.mk.injEq] at hx
    have hlen : ((ss.take len).map fun s => s.data.toList).length = len := by simp; omega
    refine ⟨some a, cap, (ss.take len).map fun s => s.data.toList, by rw [hlen], by omega, hm, ⟨by rw [strs_length, Nat.mul_one], fun _ => ⟨a, rfl, fun j u hu => ?_⟩⟩, ?_, .inr ⟨_, by rw [hx.1, List.map_map]; rfl⟩⟩
    · have hj : j < len := by
        have := (List.getElem?_eq_some_iff.1 hu).1
        rw [strs_length, hlen] at this
        exact this
      rw [hcell j (by omega)]
      have hjs : j < ss.length := by omega
      rw [strs, List.map_map, List.getElem?_map, List.getElem?_take_of_lt hj, List.getElem?_eq_getElem hjs] at hu
      simp only [Option.map_some, Option.some.injEq] at hu
      rw [← hu]
      simp [strV, List.getD, hjs]
    · intro s hs
      simp only [List.mem_map] at hs
      obtain ⟨b, hb, rfl⟩ := hs
      have := hws b (List.mem_of_mem_take hb)
      simpa using this

/-! ### The bound of the second form -/
theorem bulk_one (d : DataW H) : 1 ≤ Rows.uptoBulk d := by
  cases d with
  | lit l => cases l <;> simp [Rows.uptoBulk]
  | nil => simp [Rows.uptoBulk]
  | ptr d => simp [Rows.uptoBulk]
  | slice elems spare => simp [Rows.uptoBulk]
  | agg parts => simp [Rows.uptoBulk]
  | iface t d => simp [Rows.uptoBulk]
  | map entries => simp [Rows.uptoBulk]
  | held h => simp [Rows.uptoBulk]

theorem bulk_bound {l : List (DataW H)} (hk : Rows.uptoSmall H l = true) : Rows.uptoBulkAll l ≤ 1048576 := of_decide_eq_true hk

/-- the letters and places of a list of texts -/
def weight (l : List (List UInt8)) : Nat := (l.map fun s => s.length + 1).sum
theorem bulk_texts (l : List (List UInt8)) : Rows.uptoBulkAll (l.map fun s => (DataW.lit (.string s) : DataW H)) = weight l := by
  unfold weight
  induction l with
  | nil => simp [Rows.uptoBulkAll]
  | cons s l ih => simp only [List.map_cons, Rows.uptoBulkAll, ih, Rows.uptoBulk, List.sum_cons]
theorem weight_le_bulk {l : List (List UInt8)} {d : DataW H} (h : (d = .nil ∧ l = []) ∨ ∃ sp, d = .slice (l.map fun s => .lit (.string s)) sp) : weight l ≤ Rows.uptoBulk d := by
  rcases h with ⟨rfl, rfl⟩ | ⟨sp, rfl⟩
  · simp [weight]
  · simp only [Rows.uptoBulk, bulk_texts]; omega
theorem weight_length (l : List (List UInt8)) : l.length ≤ weight l := by
  unfold weight
  induction l with
  | nil => simp
  | cons s l ih => simp only [List.length_cons, List.map_cons, List.sum_cons]; omega
theorem weight_mem {l : List (List UInt8)} {s : List UInt8} (h : s ∈ l) : s.length + 1 ≤ weight l := by
  unfold weight
  induction l with
  | nil => cases h
  | cons t l ih =>
    simp only [List.map_cons, List.sum_cons]
    rcases List.mem_cons.1 h with rfl | h
    · omega
    · have := ih h; omega
end

end Go.Proofs.YtjajoiahgfafgaaGreatDoor
end

/- Opening of arguments: lists of numbers, lists of bools, lists of whatever one cell holds. -/
section
namespace Go.Proofs.YtjajoiahgfafgaaGreatDoor
open Go.ChangeShapes Go.WideShapes Go.ChangeAt Go.RowKit Go.Deep

section
variable {H : Type} {enc : TypeId × Value → H} {P : Program} {w : World} {base : Nat} {held : Bool}

theorem bulkAll_range (n : Nat) (D : Nat → DataW H) (f : Nat → Nat) (h : ∀ i, i < n → f i ≤ Rows.uptoBulk (D i)) : ((List.range n).map f).sum ≤ Rows.uptoBulkAll ((List.range n).map D) := by
  have key : ∀ l : List Nat, (∀ i ∈ l, i < n) → (l.map f).sum ≤ Rows.uptoBulkAll (l.map D) := by
    intro l
    induction l with
    | nil => intro _; simp [Rows.uptoBulkAll]
    | cons a l ih =>
      intro hl
      have h1 := ih (fun i hi => hl i (List.mem_cons_of_mem _ hi))
      have h2 := h a (hl a (List.mem_cons_self ..))
      simp only [List.map_cons, List.sum_cons, Rows.uptoBulkAll]
      omega
  exact key _ (fun i hi => List.mem_range.1 hi)

/-- A slice of cells among the arguments: what its cells read as, and its weight. -/
theorem open_list1 {α : Type} [Inhabited α] (El : Value → α → Prop) (wt : α → Nat) {r : Reach} {b0 : Nat} {t e : TypeId} {v : Value} {d : DataW H} {ps : List MemPlace} (ht : P.underlying t = some (.slice e)) (hc : P.cellsOf e = 1)
    (hel : ∀ v d ps n, DataW.trod enc P w base (fun _ => true) held n e [v] = some (d, ps) → ∃ x, El v x ∧ wt x ≤ Rows.uptoBulk d)
    (hval : Value.okWide P w r b0 t v) (hd : DataW.Trod enc P w base (fun _ => true) held t v d ps) :
    ∃ A c, ∃ (l : List α) (V : List Value), v = .slice A l.length c ∧ l.length ≤ c ∧ c ≤ maxLen ∧ V.length = l.length ∧ Reads w 1 A l.length V ∧ (∀ k (h : k < l.length) (h' : k < V.length), El V[k] l[k]) ∧ (l.map wt).sum ≤ Rows.uptoBulk d := by
  obtain ⟨a0, len, cap, rfl⟩ := okWide_slice ht hval
  obtain ⟨fuel, hf⟩ := hd
  rcases open_slice1 ht hc hf with ⟨hcs, hx⟩ | ⟨a, len', cap', m, n, V, D, Pl, hcs, _, hl, hm, hmm, hx, hcell⟩
  · simp [Value.cells] at hcs
    obtain ⟨rfl, rfl, rfl⟩ := hcs
    exact ⟨none, 0, [], [], rfl, Nat.le_refl _, Nat.zero_le _, rfl, Reads.nil _ _ _, by simp, by simp⟩
  · simp [Value.cells] at hcs
    obtain ⟨rfl, rfl, rfl⟩ := hcs
    simp only [if_true] at hmm
    subst hmm
    simp only [Prod.mk.injEq] at hx
    obtain ⟨X, hX⟩ := choose_lt (α := α) (p := fun i x => El (V i) x ∧ wt x ≤ Rows.uptoBulk (D i)) (n := len) (fun i hi => hel _ _ _ _ (hcell i (by omega)).2)
    refine ⟨some a, m, (List.range len).map X, (List.range len).map V, by simp, by simpa using hl, hm, by simp, ⟨by simp, fun _ => ⟨a, rfl, fun j u hu => ?_⟩⟩, ?_, ?_⟩
    · have hj : j < len := by have := (List.getElem?_eq_some_iff.1 hu).1; simpa using this
      rw [(hcell j (by omega)).1]
      simpa [hj] using hu
    · intro k h h'
      have hk : k < len := by simpa using h
      simpa using (hX k hk).1
    · rw [hx.1, Rows.uptoBulk, List.map_map]
      have := bulkAll_range len D (fun i => wt (X i)) (fun i hi => (hX i hi).2)
      have e : ((List.range len).map (wt ∘ X)).sum = ((List.range len).map (fun i => wt (X i))).sum := rfl
      omega
end

/-- Numbers, bools as cells. -/
def ints (l : List Int) : List Value := l.map (Value.int .i64)
theorem ints_length (l : List Int) : (ints l).length = l.length := by simp [ints]
def bools (l : List Bool) : List Value := l.map Value.bool
theorem bools_length (l : List Bool) : (bools l).length = l.length := by simp [bools]
theorem Reads.int_at {w : World} {A : Option Addr} {l : List Int} {k : Nat} (h : Reads w 1 A l.length (ints l)) (hk : k < l.length) : ∃ ad, A = some ad ∧ w.cell? (ad.add k) = some (.int .i64 l[k]) := by
  obtain ⟨ad, u, hA, hu, hc⟩ := h.at_ hk
  have : (ints l)[k]? = some (.int .i64 l[k]) := by simp [ints, hk]
  rw [this] at hu
  injection hu with hu
  exact ⟨ad, hA, by rw [hc, hu]⟩
theorem Reads.bool_at {w : World} {A : Option Addr} {l : List Bool} {k : Nat} (h : Reads w 1 A l.length (bools l)) (hk : k < l.length) : ∃ ad, A = some ad ∧ w.cell? (ad.add k) = some (.bool l[k]) := by
  obtain ⟨ad, u, hA, hu, hc⟩ := h.at_ hk
  have : (bools l)[k]? = some (.bool l[k]) := by simp [bools, hk]
  rw [this] at hu
  injection hu with hu
  exact ⟨ad, hA, by rw [hc, hu]⟩

section
variable {H : Type} {enc : TypeId × Value → H} {P : Program} {w : World} {base : Nat} {held : Bool}
theorem sum_ge {α : Type} (l : List α) (f : α → Nat) (h : ∀ x ∈ l, 1 ≤ f x) : l.length ≤ (l.map f).sum := by
  induction l with
  | nil => simp
  | cons a l ih =>
    have h1 := ih (fun x hx => h x (List.mem_cons_of_mem _ hx))
    have h2 := h a (List.mem_cons_self ..)
    simp only [List.length_cons, List.map_cons, List.sum_cons]; omega
theorem open_intsR {r : Reach} {b0 : Nat} {t e : TypeId} {v : Value} {d : DataW H} {ps : List MemPlace} (ht : P.underlying t = some (.slice e)) (he : P.underlying e = some (.int .i64)) (hc : P.cellsOf e = 1)
    (hval : Value.okWide P w r b0 t v) (hd : DataW.Trod enc P w base (fun _ => true) held t v d ps) :
    ∃ A c, ∃ l : List Int, v = .slice A l.length c ∧ l.length ≤ c ∧ c ≤ maxLen ∧ Reads w 1 A l.length (ints l) ∧ (∀ n ∈ l, -9223372036854775808 ≤ n ∧ n ≤ 9223372036854775807) ∧ l.length ≤ Rows.uptoBulk d := by
  obtain ⟨A, c, l, V, h1, h2, h3, h4, h5, h6, h7⟩ := open_list1 (α := Int) (fun v n => v = .int .i64 n ∧ -9223372036854775808 ≤ n ∧ n ≤ 9223372036854775807) (fun _ => 1) ht hc (fun v d ps n h => by
    obtain ⟨m, hv, hx, hw⟩ := DataW.trod_int he h
    have hv' : v = .int .i64 m := by simpa using hv
    exact ⟨m, ⟨hv', bounds_i64 hw⟩, bulk_one d⟩) hval hd
  have hV : V = ints l := List.ext_getElem (by rw [h4, ints_length]) (fun k h h' => by rw [(h6 k (by omega) h).1]; simp [ints])
  subst hV
  refine ⟨A, c, l, h1, h2, h3, h5, fun n hn => ?_, Nat.le_trans (sum_ge l _ (by simp)) h7⟩
  obtain ⟨k, hk, rfl⟩ := List.getElem_of_mem hn
  exact (h6 k hk (by rw [ints_length]; exact hk)).2
theorem open_boolsR {r : Reach} {b0 : Nat} {t e : TypeId} {v : Value} {d : DataW H} {ps : List MemPlace} (ht : P.underlying t = some (.slice e)) (he : P.underlying e = some .bool) (hc : P.cellsOf e = 1)
    (hval : Value.okWide P w r b0 t v) (hd : DataW.Trod enc P w base (fun _ => true) held t v d ps) :
    ∃ A c, ∃ l : List Bool, v = .slice A l.length c ∧ l.length ≤ c ∧ c ≤ maxLen ∧ Reads w 1 A l.length (bools l) ∧ l.length ≤ Rows.uptoBulk d := by
  obtain ⟨A, c, l, V, h1, h2, h3, h4, h5, h6, h7⟩ := open_list1 (α := Bool) (fun v n => v = .bool n) (fun _ => 1) ht hc (fun v d ps n h => by
    obtain ⟨m, hv, hx⟩ := DataW.trod_bool he h
    exact ⟨m, by simpa using hv, bulk_one d⟩) hval hd
  have hV : V = bools l := List.ext_getElem (by rw [h4, bools_length]) (fun k h h' => by rw [h6 k (by omega) h]; simp [bools])
  subst hV
  exact ⟨A, c, l, h1, h2, h3, h5, Nat.le_trans (sum_ge l _ (by simp)) h7⟩
end
end Go.Proofs.YtjajoiahgfafgaaGreatDoor
end

/- Opening of arguments: slices of structs whose fields are one cell each. -/
section
namespace Go.Proofs.YtjajoiahgfafgaaGreatDoor
open Go.ChangeShapes Go.WideShapes Go.ChangeAt Go.RowKit Go.Deep

/-- Rows of cells, one behind the other from A on. -/
def IsRows (w : World) (size : Nat) (A : Option Addr) (rows : List (List Value)) : Prop :=
  ∀ k (h : k < rows.length), ∃ ad, A = some ad ∧ ∀ j u, rows[k][j]? = some u → w.cell? (ad.add (k * size + j)) = some u
theorem IsRows.below {w w' : World} {size : Nat} {A : Option Addr} {rows : List (List Value)} (h : IsRows w size A rows) (hb : Below w.heap.size w w') : IsRows w' size A rows := by
  intro k hk
  obtain ⟨ad, hA, hc⟩ := h k hk
  exact ⟨ad, hA, fun j u hu => (hb.cell (World.block_lt_of_cell? _ _ (hc j u hu))).trans (hc j u hu)⟩

/-- What the walk asks of a row: its first cell, and the others by their places. -/
theorem IsRows.at_ {w : World} {size : Nat} {A : Option Addr} {rows : List (List Value)} (h : IsRows w size A rows) {k : Nat} (hk : k < rows.length) :
    ∃ ad, A = some ad ∧ (∀ u, rows[k][0]? = some u → w.cell? (ad.add (k * size)) = some u) ∧ ∀ j u, rows[k][j + 1]? = some u → w.cell? ⟨(ad.add (k * size)).block, (ad.add (k * size)).off + (j + 1), none⟩ = some u := by
  obtain ⟨ad, hA, hc⟩ := h k hk
  refine ⟨ad, hA, fun u hu => hc 0 u hu, fun j u hu => ?_⟩
  have h1 := hc (j + 1) u hu
  rw [← add_of_add] at h1
  rw [← h1]
  conv => rhs; rw [Addr.add, if_neg (by omega)]

section
variable {H : Type} {enc : TypeId × Value → H} {P : Program} {w : World} {base : Nat} {held : Bool}
/-- A slice of structs among the arguments: what its elements read as, and its weight. -/
theorem open_rows {α : Type} [Inhabited α] (El : List Value → α → Prop) (wt : α → Nat) {r : Reach} {b0 : Nat} {t e : TypeId} {fs : Array Field} {v : Value} {d : DataW H} {ps : List MemPlace} (ht : P.underlying t = some (.slice e)) (he : P.underlying e = some (.struct fs))
    (hone : oneCellFields P fs = true) (hC : P.cellsOf e = fs.size)
    (hel : ∀ (vs : List Value) (ys : List (DataW H × List MemPlace)) n, vs.length = fs.size → ys.length = fs.size → (∀ (j : Nat) (f : Field), fs[j]? = some f → ∃ v y, vs[j]? = some v ∧ ys[j]? = some y ∧ DataW.trod enc P w base (fun _ => true) held n f.type [v] = some y) →
      ∃ x, El vs x ∧ wt x ≤ Rows.uptoBulk (DataW.agg (ys.map (·.1))))
    (hval : Value.okWide P w r b0 t v) (hd : DataW.Trod enc P w base (fun _ => true) held t v d ps) :
    ∃ A c, ∃ (l : List α) (V : List (List Value)), v = .slice A l.length c ∧ l.length ≤ c ∧ c ≤ maxLen ∧ V.length = l.length ∧ IsRows w fs.size A V ∧ (∀ k (h : k < l.length) (h' : k < V.length), El V[k] l[k]) ∧ (l.map wt).sum ≤ Rows.uptoBulk d := by
  obtain ⟨a0, len, cap, rfl⟩ := okWide_slice ht hval
  obtain ⟨fuel, hf⟩ := hd
  rcases open_slice ht hf with ⟨hcs, hx⟩ | ⟨a, len', cap', m, n, D, Pl, hcs, _, hl, hm, hmm, hx, hcell⟩
  · simp [Value.cells] at hcs
    obtain ⟨rfl, rfl, rfl⟩ := hcs
    exact ⟨none, 0, [], [], rfl, Nat.le_refl _, Nat.zero_le _, rfl, fun k h => absurd h (by simp), by simp, by simp⟩
  · simp [Value.cells] at hcs
    obtain ⟨rfl, rfl, rfl⟩ := hcs
    simp only [if_true] at hmm
    subst hmm
    simp only [Prod.mk.injEq] at hx
    obtain ⟨X, hX⟩ := choose_lt (α := List Value × α) (p := fun i x => x.1.length = fs.size ∧ (∀ j u, x.1[j]? = some u → w.cell? (a.add (i * fs.size + j)) = some u) ∧ El x.1 x.2 ∧ wt x.2 ≤ Rows.uptoBulk (D i)) (n := len) (fun i hi => by
      obtain ⟨cs', hc, ht'⟩ := hcell i (by omega)
      rw [hC] at hc
      obtain ⟨ys, n', hn', hy, hlen, hyl, hf⟩ := DataW.trod_struct he ht'
      obtain ⟨_, hcl, hat⟩ := World.cells?_some hc
      simp only [Prod.mk.injEq] at hy
      obtain ⟨x, hx1, hx2⟩ := hel cs' ys n' hcl hyl (fun j f hj => by
        obtain ⟨ho, hk⟩ := hone_of hone j f hj
        have hjl : j < fs.size := (Array.getElem?_eq_some_iff.1 hj).1
        have hv : cs'[j]? = some (cs'[j]'(by omega)) := List.getElem?_eq_getElem (by omega)
        have h1 := hf j f hj
        rw [ho, hk] at h1
        have hone' : (cs'.drop j).take 1 = [cs'[j]'(by omega)] := by
          rw [List.drop_eq_getElem_cons (by omega)]
          rfl
        rw [hone'] at h1
        have hys : ys[j]? = some (ys[j]'(by omega)) := List.getElem?_eq_getElem (by omega)
        exact ⟨_, _, hv, hys, h1.trans hys⟩)
      refine ⟨(cs', x), hcl, fun j u hu => ?_, hx1, ?_⟩
      · have hj : j < fs.size := by
          have h1 : j < cs'.length := (List.getElem?_eq_some_iff.1 hu).1
          omega
        rw [← Go.Deep.add_add, hat j hj]
        exact hu
      · rw [hy.1]; exact hx2)
    refine ⟨some a, m, (List.range len).map (fun i => (X i).2), (List.range len).map (fun i => (X i).1), by simp, by simpa using hl, hm, by simp, ?_, ?_, ?_⟩
    · intro k h
      have hk : k < len := by simpa using h
      refine ⟨a, rfl, fun j u hu => (hX k hk).2.1 j u ?_⟩
      simpa using hu
    · intro k h h'
      have hk : k < len := by simpa using h
      simpa using (hX k hk).2.2.1
    · rw [hx.1, Rows.uptoBulk, List.map_map]
      have := bulkAll_range len D (fun i => wt (X i).2) (fun i hi => (hX i hi).2.2.2)
      have e : ((List.range len).map (wt ∘ fun i => (X i).2)).sum = ((List.range len).map (fun i => wt (X i).2)).sum := rfl
      omega
end
end Go.Proofs.YtjajoiahgfafgaaGreatDoor
end
