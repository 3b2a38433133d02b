/- Whole rows: a store into a row of the call's own, a load of one. -/
import Derived.Test.YtgppfcaghjbjmaaDoorWords
import Derived.Deep.MidRow
namespace Go.Proofs.YtgppfcaghjbjmaaDoor
open Go.RowKit

theorem heap_setCells {e : TypeId} {g : Nat} : ∀ (vs : List Value) (o : Nat) (C : Array Value) (w : World), w.heap[g]? = some (.cells C e (0, 0)) → o + vs.length ≤ C.size →
    (w.setCells g o vs).heap[g]? = some (.cells (C.toList.take o ++ vs ++ C.toList.drop (o + vs.length)).toArray e (0, 0)) ∧ w.grownBy (w.setCells g o vs) (some g) ∧ (w.setCells g o vs).heap.size = w.heap.size
  | [], o, C, w, h, _ => ⟨by simpa [World.setCells] using h, gb_refl _ _, rfl⟩
  | v :: vs, o, C, w, h, hl => by
    simp only [List.length_cons] at hl
    have h1 := heap_set h o v
    obtain ⟨h2, h3, h4⟩ := heap_setCells vs (o + 1) (C.setIfInBounds o v) (w.setCell ⟨g, o, none⟩ v) h1 (by simp; omega)
    refine ⟨?_, ?_, ?_⟩
    · show (World.setCells (w.setCell ⟨g, o, none⟩ v) g (o + 1) vs).heap[g]? = _
      rw [h2]
      congr 2
      have e1 : (C.setIfInBounds o v).toList.take (o + 1) = C.toList.take o ++ [v] := by
        rw [Array.toList_setIfInBounds, List.take_set, List.take_succ_eq_append_getElem (by simp; omega)]
        rw [List.set_append_right _ _ (by simp; omega)]
        have hm : min o C.size = o := by omega
        simp [hm]
      have e2 : (C.setIfInBounds o v).toList.drop (o + 1 + vs.length) = C.toList.drop (o + (v :: vs).length) := by
        rw [Array.toList_setIfInBounds, List.drop_set_of_lt (by omega), List.length_cons]; congr 1; omega
      rw [e1, e2]; simp
    · show w.grownBy (World.setCells (w.setCell ⟨g, o, none⟩ v) g (o + 1) vs) (some g)
      have hs := gb_set (gb_refl w (some g)) (p := ⟨g, o, none⟩) (.inl rfl) v
      exact ⟨h3.os.trans hs.os, h3.tape.trans hs.tape, h3.output.trans hs.output, Nat.le_trans hs.size h3.size, fun i hi hne => (h3.block i (Nat.lt_of_lt_of_le hi hs.size) hne).trans (hs.block i hi hne)⟩
    · show (World.setCells (w.setCell ⟨g, o, none⟩ v) g (o + 1) vs).heap.size = _
      rw [h4]; simp [World.setCell]

/-- A whole row is stored. -/
theorem wpList_store_row {P : Program} {ops : Array Oper} {rest : List Oper} {op : Oper} {a : Act} {w : World} {Q : Exit → Act → World → Prop} (hgd : op.guard = none) (ty : TypeId) (x y : Operand) (ho : op.op = .store ty x y)
    (g : Nat) (cells C : Array Value) (e : TypeId) (hx : a.eval x = .pointer (some ⟨g, 0, none⟩)) (hy : a.eval y = .agg cells)
    (hg : w.heap[g]? = some (.cells C e (0, 0))) (hC : C.size = cells.size) (hi : (P.info? ty).map (·.size) = some cells.size) (h1 : cells.all (·.oneCell') = true)
    (h : ∀ w', w.grownBy w' (some g) → w'.heap.size = w.heap.size → w'.heap[g]? = some (.cells cells e (0, 0)) → wpList P ops Q rest (a.put op.dst undef) w') : wpList P ops Q (op :: rest) a w := by
  obtain ⟨h2, h3, h4⟩ := heap_setCells cells.toList 0 C w hg (by simp [hC])
  refine wpList_store_mid hgd ty x y ho g 0 cells hx hy (fun j hj => ?_) hi h1 (h _ h3 h4 ?_)
  · refine ⟨?_, frozen_of_row w g _ C e hg⟩
    rw [cell_of_row w g _ C e _ hg]
    simp [hC, hj]
  · rw [h2, List.take_zero, List.drop_eq_nil_of_le (by simp [hC])]; simp

theorem heap_new' (W : World) (o : Obj) (n : Nat) (h : W.heap.size = n) : (W.alloc o).heap[n]? = some o := by subst h; exact heap_alloc_new W o
theorem heap_old' {W : World} {o x : Obj} {n : Nat} (h : W.heap[n]? = some x) : (W.alloc o).heap[n]? = some x := by
  rw [Below.heap_alloc _ _ _ (Array.getElem?_eq_some_iff.1 h).1]; exact h

end Go.Proofs.YtgppfcaghjbjmaaDoor
