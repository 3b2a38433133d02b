/- Texts joined: ProfW5. -/
import Derived.Test.YtoifnnhbejofjaaDoorBProfWrites6
import Derived.Laws.EntriesVeiled
import Derived.Deep.Cut
set_option linter.unusedSimpArgs false
set_option linter.unusedVariables false

/- prof.Print's blocks. -/
section
set_option linter.unusedVariables false
namespace Go.Proofs.YtoifnnhbejofjaaDoor
open Go.RowKit Plain

@[go_sem] theorem run_store_fnP {P : Program} {w : World} {a : Addr} {m : Mode} (fn : Fn) (first captured : Array Value) : (store a (.func fn first captured) m).run P w = stored P w a (.func fn first captured) m := run_store P w a _ m rfl

/-- Print's four blocks: the profile, the builder, the word ok, the closure say. -/
structure PrAt (w : World) (A0 : Option Addr) (c0 : Nat) (A1 : Option Addr) (c1 : Nat) (A2 : Option Addr) (c2 : Nat) (p : PF) (l : List UInt8) (ok : Bool) (W : World) : Prop where
  head : W.heap[w.heap.size]? = some (.cells #[.slice A0 p.ign.length c0, .slice A1 p.bak.length c1, .slice A2 p.mrg.length c2, .int .i64 p.pre, .int .i64 p.frc, .bool p.bat, .bool p.fst] 27 (0, 0))
  bld : Lib.IsBuilderF 58 5 (w.heap.size + 1) (w.heap.size + 1) (Lib.byteCells l) W
  ok : W.heap[w.heap.size + 1 + 1]? = some (.cells #[.bool ok] 4 (0, 0))
  fn : W.heap[w.heap.size + 1 + 1 + 1]? = some (.cells #[.func (.func 17) #[] #[.pointer (some ⟨w.heap.size + 1 + 1, 0, none⟩), .pointer (some ⟨w.heap.size + 1, 0, none⟩)]] 64 (0, 0))
  below : Below w.heap.size w W
  size : w.heap.size + 4 ≤ W.heap.size
section
variable {w W W' : World} {A0 A1 A2 : Option Addr} {c0 c1 c2 : Nat} {p : PF} {l l' : List UInt8} {ok ok' : Bool}
theorem PrAt.on (h : PrAt w A0 c0 A1 c1 A2 c2 p l ok W) (hb : Below W.heap.size W W') : PrAt w A0 c0 A1 c1 A2 c2 p l ok W' :=
  ⟨(hb.block _ (by have := h.size; omega)).trans h.head, builder_below h.bld hb, (hb.block _ (by have := h.size; omega)).trans h.ok, (hb.block _ (by have := h.size; omega)).trans h.fn, h.below.trans (hb.mono h.below.size), Nat.le_trans h.size hb.size⟩
theorem PrAt.say (h : PrAt w A0 c0 A1 c1 A2 c2 p l ok W) (hs : SayAt (w.heap.size + 1 + 1) (w.heap.size + 1) (w.heap.size + 1) l' ok' W W') : PrAt w A0 c0 A1 c1 A2 c2 p l' ok' W' :=
  ⟨hs.2.2.2 _ _ h.head (by omega) (by omega) (fun c fz e => by injection e with _ h2 _; revert h2; decide), hs.1, hs.2.1, hs.2.2.2 _ _ h.fn (by omega) (by omega) (fun c fz e => by injection e with _ h2 _; revert h2; decide), h.below.trans (hs.2.2.1.mono (by omega)), Nat.le_trans h.size hs.2.2.1.size⟩
theorem PrAt.cells (h : PrAt w A0 c0 A1 c1 A2 c2 p l ok W) : W.cell? ⟨w.heap.size, 0, none⟩ = some (.slice A0 p.ign.length c0) ∧ W.cell? ⟨w.heap.size, 1, none⟩ = some (.slice A1 p.bak.length c1) ∧ W.cell? ⟨w.heap.size, 2, none⟩ = some (.slice A2 p.mrg.length c2) ∧ W.cell? ⟨w.heap.size, 3, none⟩ = some (.int .i64 p.pre) ∧ W.cell? ⟨w.heap.size, 4, none⟩ = some (.int .i64 p.frc) ∧ W.cell? ⟨w.heap.size, 5, none⟩ = some (.bool p.bat) ∧ W.cell? ⟨w.heap.size, 6, none⟩ = some (.bool p.fst) ∧
    W.cell? ⟨w.heap.size + 1 + 1, 0, none⟩ = some (.bool ok) ∧ W.cell? ⟨w.heap.size + 1 + 1 + 1, 0, none⟩ = some (.func (.func 17) #[] #[.pointer (some ⟨w.heap.size + 1 + 1, 0, none⟩), .pointer (some ⟨w.heap.size + 1, 0, none⟩)]) :=
  ⟨cell_of_row _ _ 0 _ _ _ h.head, cell_of_row _ _ 1 _ _ _ h.head, cell_of_row _ _ 2 _ _ _ h.head, cell_of_row _ _ 3 _ _ _ h.head, cell_of_row _ _ 4 _ _ _ h.head, cell_of_row _ _ 5 _ _ _ h.head, cell_of_row _ _ 6 _ _ _ h.head, cell_of_row _ _ 0 _ _ _ h.ok, cell_of_row _ _ 0 _ _ _ h.fn⟩
theorem prAt_start (A0 : Option Addr) (c0 : Nat) (A1 : Option Addr) (c1 : Nat) (A2 : Option Addr) (c2 : Nat) (p : PF) (w : World) : ∃ W, (((w.alloc (.cells #[.slice A0 p.ign.length c0, .slice A1 p.bak.length c1, .slice A2 p.mrg.length c2, .int .i64 p.pre, .int .i64 p.frc, .bool p.bat, .bool p.fst] 27)).alloc (.cells #[.pointer none, .slice none 0 0] 58)).alloc (.cells #[.bool true] 4)).alloc (.cells #[.func (.func 17) #[] #[.pointer (some ⟨w.heap.size + 1 + 1, 0, none⟩), .pointer (some ⟨w.heap.size + 1, 0, none⟩)]] 64) = W ∧ PrAt w A0 c0 A1 c1 A2 c2 p [] true W := by
  refine ⟨_, rfl, ?_, ?_, ?_, ?_, ?_, by simp⟩
  · rw [Below.heap_alloc _ _ _ (by simp; omega), Below.heap_alloc _ _ _ (by simp; omega), Below.heap_alloc _ _ _ (by simp)]; exact heap_alloc_new _ _
  · have h1 := fresh_builder (w.alloc (.cells #[.slice A0 p.ign.length c0, .slice A1 p.bak.length c1, .slice A2 p.mrg.length c2, .int .i64 p.pre, .int .i64 p.frc, .bool p.bat, .bool p.fst] 27))
    have e : (w.alloc (.cells #[.slice A0 p.ign.length c0, .slice A1 p.bak.length c1, .slice A2 p.mrg.length c2, .int .i64 p.pre, .int .i64 p.frc, .bool p.bat, .bool p.fst] 27)).heap.size = w.heap.size + 1 := by simp
    rw [e] at h1
    exact builder_below h1 (((Below.refl _ _).alloc (Nat.le_refl _) _).alloc (by simp) _)
  · rw [Below.heap_alloc _ _ _ (by simp)]
    have := heap_alloc_new ((w.alloc (.cells #[.slice A0 p.ign.length c0, .slice A1 p.bak.length c1, .slice A2 p.mrg.length c2, .int .i64 p.pre, .int .i64 p.frc, .bool p.bat, .bool p.fst] 27)).alloc (.cells #[.pointer none, .slice none 0 0] 58)) (.cells #[.bool true] 4)
    simpa using this
  · have := heap_alloc_new (((w.alloc (.cells #[.slice A0 p.ign.length c0, .slice A1 p.bak.length c1, .slice A2 p.mrg.length c2, .int .i64 p.pre, .int .i64 p.frc, .bool p.bat, .bool p.fst] 27)).alloc (.cells #[.pointer none, .slice none 0 0] 58)).alloc (.cells #[.bool true] 4)) (.cells #[.func (.func 17) #[] #[.pointer (some ⟨w.heap.size + 1 + 1, 0, none⟩), .pointer (some ⟨w.heap.size + 1, 0, none⟩)]] 64)
    simpa using this
  · exact ((((Below.refl w.heap.size w).alloc (Nat.le_refl _) _).alloc (by simp) _).alloc (by simp; omega) _).alloc (by simp; omega) _
end
/-- A call of say with words that have just been built. -/
theorem say_new {w W : World} {A0 A1 A2 : Option Addr} {c0 c1 c2 : Nat} {p : PF} {l : List UInt8} {ok : Bool} (good : Bool) (words : List (List UInt8)) (g : Nat) (h : PrAt w A0 c0 A1 c1 A2 c2 p l ok W) (hg : W.heap[g]? = some (.cells (strs words).toArray 9 (0, 0))) (hgo : w.heap.size + 4 ≤ g)
    (hn : words.length ≤ 3) (hj : (Lib.join words [32]).length ≤ 2200000) (hl : l.length ≤ 70368744177664) :
    Calls Tryd.prog 17 #[.bool good, .slice (some ⟨g, 0, none⟩) words.length words.length, .pointer (some ⟨w.heap.size + 1 + 1, 0, none⟩), .pointer (some ⟨w.heap.size + 1, 0, none⟩)] W fun e w' => e = .returned (.tuple #[]) ∧ PrAt w A0 c0 A1 c1 A2 c2 p (l ++ (Lib.join words [32] ++ [10])) (ok && good) w' ∧ Kept2 (w.heap.size + 1 + 1) (w.heap.size + 1) W w' := by
  have hrd : Reads W 1 (some ⟨g, 0, none⟩) words.length (strs words) := ⟨by simp [strs], fun _ => ⟨_, rfl, fun j u hj => by
    have e : (⟨g, 0, none⟩ : Addr).add j = ⟨g, j, none⟩ := by unfold Addr.add; split <;> simp_all
    rw [e, cell_of_row _ _ j _ _ _ hg]
    simpa using hj⟩⟩
  refine (psay_any good ok l words (some ⟨g, 0, none⟩) words.length (w.heap.size + 1 + 1) (w.heap.size + 1) (w.heap.size + 1) W hrd (fun a ha => by injection ha with ha; rw [← ha]; show g ≠ _; omega) hn (Nat.le_refl _) (by omega) hj h.ok h.bld hl (by omega) (by omega)).mono ?_
  rintro e w' ⟨he, h1, h2, h3, h4⟩
  exact ⟨he, h.say ⟨h1, h2, h3, h4⟩, h4⟩

def sidesL (p : PF) (i : Nat) : List UInt8 := (if 1 ≤ i then sidedL wPrefer p.pre else []) ++ (if 2 ≤ i then sidedL wForce p.frc else [])
def fstL (b : Bool) : List UInt8 := if b then wFast ++ [10] else []
def batL (b : Bool) : List UInt8 := if b then wBatch ++ [10] else []

theorem drewB (B : Nat) (w : World) : Below B w w.drew := ⟨rfl, rfl, rfl, Nat.le_refl _, fun _ _ => rfl⟩
theorem rules_all_no {p : PF} (h : okRules p.ign = false ∨ okRules p.bak = false ∨ okProgs p.mrg = false) : printP p = ([], 80) := by
  apply print_no
  unfold printable
  rcases h with h | h | h <;> rw [h] <;> simp
theorem sides_no {p : PF} (h : okNat p.pre = false ∨ okNat p.frc = false) : printP p = ([], 80) := by
  apply print_no
  unfold printable
  rcases h with h | h <;> rw [h] <;> simp
theorem okNat_bad {n : Int} (h : n < 0 ∨ 2 < n) : okNat n = false := by
  unfold okNat
  rw [decide_eq_false (by omega), decide_eq_false (by omega), decide_eq_false (by omega)]; rfl
def okM (l : List Prg) (i : Nat) : Bool := (l.take i).all (fun m => wordP m.name && plainS m.pat) && decide (i ≤ 100)
theorem okM_succ {l : List Prg} {i : Nat} (h : i < l.length) : okM l (i + 1) = (okM l i && (wordP l[i].name && plainS l[i].pat && decide (i < 100))) := by
  unfold okM
  rw [List.take_succ_eq_append_getElem h, List.all_append]
  simp only [List.all_cons, List.all_nil, Bool.and_true]
  have e : decide (i + 1 ≤ 100) = (decide (i ≤ 100) && decide (i < 100)) := by rw [Bool.eq_iff_iff]; simp; omega
  rw [e]
  cases (l.take i).all (fun m => wordP m.name && plainS m.pat) <;> cases wordP l[i].name <;> cases plainS l[i].pat <;> simp
theorem okM_all (l : List Prg) : okM l l.length = okProgs l := by
  unfold okM okProgs
  rw [List.take_of_length_le (Nat.le_refl _), Bool.and_comm]
theorem progsL_length : ∀ l : List Prg, (∀ r ∈ l, r.name.length ≤ 1048576 ∧ r.pat.length ≤ 1048576) → (progsL l).length ≤ l.length * 2097160
  | [], _ => by simp [progsL]
  | r :: l, h => by
    have h1 := h r (by simp)
    have h2 := progsL_length l (fun x hx => h x (by simp [hx]))
    have e : progsL (r :: l) = progL r ++ progsL l := by simp [progsL]
    rw [e, List.length_append, List.length_cons]
    have : (progL r).length ≤ 2097160 := by
      unfold progL wMerge
      simp; omega
    omega
theorem join_three (a b c : List UInt8) : Lib.join [a, b, c] [32] = a ++ ([32] ++ (b ++ ([32] ++ c))) := by simp [Lib.join]
theorem sides_one {p : PF} {n : Int} (h : p.pre = n) : sidesL p 1 = sidedL wPrefer n := by unfold sidesL; rw [h]; simp
theorem sides_two {p : PF} {n : Int} (h : p.frc = n) : sidesL p 2 = sidesL p 1 ++ sidedL wForce n := by unfold sidesL; rw [h]; simp
theorem sides_le (p : PF) (i : Nat) : (sidesL p i).length ≤ 17 := by
  have h1 : (sidedL wPrefer p.pre).length ≤ 9 := sidedL_length wPrefer p.pre
  have h2 : (sidedL wForce p.frc).length ≤ 8 := sidedL_length wForce p.frc
  unfold sidesL
  rw [List.length_append]
  have h3 : (if 1 ≤ i then sidedL wPrefer p.pre else []).length ≤ 9 := by split; exact h1; simp
  have h4 : (if 2 ≤ i then sidedL wForce p.frc else []).length ≤ 8 := by split; exact h2; simp
  omega
theorem text_eq (p : PF) : textP p = batL p.bat ++ fstL p.fst ++ sidesL p 2 ++ rulesL wIgnore wKeep p.ign ++ rulesL wBackup wDrop p.bak ++ progsL p.mrg := by
  unfold textP headL sidesL batL fstL
  simp
end Go.Proofs.YtoifnnhbejofjaaDoor
end
