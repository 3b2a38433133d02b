/- Rows of structs: a list of values, each of so many cells, in a row of the call's own. -/
import Derived.Test.YtgppfcaghjbjmaaDoorWholeRows
import Derived.Test.YtgppfcaghjbjmaaDoorWords
import Derived.Deep.MidRow
namespace Go.Proofs.YtgppfcaghjbjmaaDoor
open Go.RowKit

section
variable {α : Type}
def rowsE (enc : α → List Value) (l : List α) : List Value := l.flatMap enc
variable {enc : α → List Value} {m : Nat}
theorem rowsE_cons (x : α) (l : List α) : rowsE enc (x :: l) = enc x ++ rowsE enc l := by simp [rowsE]
theorem rowsE_append (l k : List α) : rowsE enc (l ++ k) = rowsE enc l ++ rowsE enc k := by simp [rowsE]
theorem rowsE_one (x : α) : rowsE enc [x] = enc x := by simp [rowsE]
theorem rowsE_nil : rowsE enc [] = [] := rfl
theorem rowsE_length (hm : ∀ x, (enc x).length = m) (l : List α) : (rowsE enc l).length = l.length * m := by
  induction l with
  | nil => simp [rowsE]
  | cons x l ih => rw [rowsE_cons, List.length_append, hm, ih, List.length_cons, Nat.add_mul]; omega
theorem rowsE_oneCell (h1 : ∀ x, ∀ u ∈ enc x, u.oneCell' = true) (l : List α) : ∀ u ∈ rowsE enc l, u.oneCell' = true := by
  intro u hu
  obtain ⟨x, -, hx⟩ := List.mem_flatMap.1 hu
  exact h1 x u hx
theorem rowsE_get (hm : ∀ x, (enc x).length = m) (l : List α) : ∀ (j : Nat) (h : j < l.length) (i : Nat), i < m → (rowsE enc l)[j * m + i]? = (enc l[j])[i]? := by
  induction l with
  | nil => intro j h; simp at h
  | cons x l ih =>
    intro j h i hi
    rw [rowsE_cons]
    cases j with
    | zero => rw [List.getElem?_append_left (by rw [hm]; omega)]; simp
    | succ j =>
      rw [List.getElem?_append_right (by rw [hm, Nat.add_mul]; omega), hm, List.getElem_cons_succ, ← ih j (by simpa using h) i hi]
      congr 1; rw [Nat.add_mul]; omega
theorem rowsE_set (hm : ∀ x, (enc x).length = m) (l : List α) : ∀ (j : Nat) (_ : j < l.length) (x : α), rowsE enc (l.set j x) = (rowsE enc l).take (j * m) ++ enc x ++ (rowsE enc l).drop (j * m + m) := by
  induction l with
  | nil => intro j h; simp at h
  | cons y l ih =>
    intro j h x
    cases j with
    | zero =>
      rw [List.set_cons_zero, rowsE_cons, rowsE_cons]
      simp [hm]
    | succ j =>
      rw [List.set_cons_succ, rowsE_cons, rowsE_cons, ih j (by simpa using h) x]
      have h1 : (enc y).take ((j + 1) * m) = enc y := List.take_of_length_le (by rw [hm, Nat.add_mul]; omega)
      have h2 : (enc y).drop ((j + 1) * m + m) = [] := List.drop_eq_nil_of_le (by rw [hm, Nat.add_mul]; omega)
      rw [List.take_append, List.drop_append, hm, h1, h2]
      rw [show (j + 1) * m - m = j * m by rw [Nat.add_mul]; omega, show (j + 1) * m + m - m = j * m + m by rw [Nat.add_mul]; omega]
      simp
theorem rows_mid {A vs : List Value} {o k : Nat} (hv : vs.length = m) (h1 : o + m ≤ k) (h2 : k ≤ A.length) : (A.take o ++ vs ++ A.drop (o + m)).take k = (A.take k).take o ++ vs ++ (A.take k).drop (o + m) := by
  have hl : (A.take o ++ vs).length = o + m := by simp [hv]; omega
  rw [List.take_append, hl, List.take_of_length_le (by omega), List.take_take, Nat.min_eq_left (by omega), List.drop_take]

variable {w w' : World} {base g c : Nat} {t : TypeId} {l : List α}
theorem rowsE_some {v : Value} (h : w.ownsRow base t m v l.length (rowsE enc l)) (hn : 0 < l.length) : ∃ g c, v = .slice (some ⟨g, 0, none⟩) l.length c ∧ base ≤ g ∧ g < w.heap.size := by
  rcases h.2 with ⟨h1, h2⟩ | ⟨g, cap, cur, h1, h2, h3, -⟩
  · omega
  · exact ⟨g, cap, h1, h2, (Array.getElem?_eq_some_iff.1 h3).1⟩
theorem rowsE_cell (hm : ∀ x, (enc x).length = m) (h : w.ownsRow base t m (.slice (some ⟨g, 0, none⟩) l.length c) l.length (rowsE enc l)) {j : Nat} (hj : j < l.length) {i : Nat} (hi : i < m) : w.cell? ⟨g, j * m + i, none⟩ = (enc l[j])[i]? := by
  have h1 := rowsE_get hm l j hj i hi
  have h2 : i < (enc l[j]).length := by rw [hm]; exact hi
  rw [List.getElem?_eq_getElem h2] at h1 ⊢
  have := h.cells (g := g) rfl (j * m + i) _ h1
  simpa [Addr.add_mid] using this
theorem rowsE_frozen (h : w.ownsRow base t m (.slice (some ⟨g, 0, none⟩) l.length c) l.length (rowsE enc l)) (i : Nat) : w.frozen? ⟨g, i, none⟩ = false := by
  rcases h.2 with ⟨h1, h2⟩ | ⟨g', cap, cur, h1, h2, h3, -⟩
  · cases h1
  · injection h1 with h1 _ _
    injection h1 with h1
    injection h1 with h1 _ _
    subst h1
    exact frozen_of_row w g _ _ _ h3
theorem rowsE_there (hm : ∀ x, (enc x).length = m) (h : w.ownsRow base t m (.slice (some ⟨g, 0, none⟩) l.length c) l.length (rowsE enc l)) {j : Nat} (hj : j < l.length) : w.there g (j * m) m := by
  intro i hi
  refine ⟨?_, rowsE_frozen h _⟩
  rw [rowsE_cell hm h hj hi, List.getElem?_eq_getElem (by rw [hm]; exact hi)]; rfl
theorem rowsE_range (hm : ∀ x, (enc x).length = m) (h : w.ownsRow base t m (.slice (some ⟨g, 0, none⟩) l.length c) l.length (rowsE enc l)) {j : Nat} (hj : j < l.length) : w.rangeAt g (j * m) (enc l[j]) := by
  intro i v hv
  have hi : i < m := by have := (List.getElem?_eq_some_iff.1 hv).1; rwa [hm] at this
  rw [rowsE_cell hm h hj hi]; exact hv
theorem rowsE_setrow (hm : ∀ x, (enc x).length = m) (h : w.ownsRow base t m (.slice (some ⟨g, 0, none⟩) l.length c) l.length (rowsE enc l)) {j : Nat} (hj : j < l.length) (x : α) :
    (w.setCells g (j * m) (enc x)).ownsRow base t m (.slice (some ⟨g, 0, none⟩) l.length c) l.length (rowsE enc (l.set j x)) ∧ w.grownBy (w.setCells g (j * m) (enc x)) (some g) := by
  rcases h.2 with ⟨h1, h2⟩ | ⟨g', cap, cur, h1, h2, h3, h4, h5, h6, h7⟩
  · cases h1
  · injection h1 with h1 _ h1c
    injection h1 with h1
    injection h1 with h1 _ _
    subst h1 h1c
    have hle : (j + 1) * m ≤ l.length * m := Nat.mul_le_mul_right m hj
    have hle2 : l.length * m ≤ c * m := Nat.mul_le_mul_right m h4
    rw [Nat.add_mul] at hle
    obtain ⟨e1, e2, e3⟩ := heap_setCells (enc x) (j * m) cur w h3 (by rw [hm, h6]; omega)
    rw [hm] at e1
    refine ⟨⟨by rw [rowsE_length hm, List.length_set], .inr ⟨g, c, _, rfl, h2, e1, h4, h5, ?_, ?_⟩⟩, e2⟩
    · simp [hm]; omega
    · show (List.take _ _) = _
      rw [rows_mid (hm x) (by omega) (by simp; omega), h7, rowsE_set hm l j hj x]
/-- one cell of a row is stored -/
theorem rowsE_setcell (hm : ∀ x, (enc x).length = m) (h : w.ownsRow base t m (.slice (some ⟨g, 0, none⟩) l.length c) l.length (rowsE enc l)) {j : Nat} (hj : j < l.length) {i : Nat} (hi : i < m) (u : Value) (x : α) (hx : enc x = (enc l[j]).set i u) :
    (w.setCell ⟨g, j * m + i, none⟩ u).ownsRow base t m (.slice (some ⟨g, 0, none⟩) l.length c) l.length (rowsE enc (l.set j x)) ∧ w.grownBy (w.setCell ⟨g, j * m + i, none⟩ u) (some g) := by
  have hle : (j + 1) * m ≤ l.length * m := Nat.mul_le_mul_right m hj
  rw [Nat.add_mul] at hle
  refine ⟨?_, gb_set (gb_refl w _) (.inl rfl) u⟩
  rcases h.2 with ⟨h1, h2⟩ | ⟨g', cap, cur, h1, h2, h3, h4, h5, h6, h7⟩
  · cases h1
  · injection h1 with h1 _ h1c
    injection h1 with h1
    injection h1 with h1 _ _
    subst h1 h1c
    refine ⟨by rw [rowsE_length hm, List.length_set], .inr ⟨g, c, _, rfl, h2, heap_set h3 _ u, h4, h5, by simpa using h6, ?_⟩⟩
    rw [Array.toList_setIfInBounds, List.take_set, h7, rowsE_set hm l j hj x, hx]
    have hl := rowsE_length hm l
    have hlj := hm l[j]
    have e1 : (rowsE enc l).take (j * m) ++ enc l[j] ++ (rowsE enc l).drop (j * m + m) = rowsE enc l := by
      rw [← rowsE_set hm l j hj l[j]]; simp
    conv => lhs; rw [← e1]
    rw [List.append_assoc, List.append_assoc, List.set_append_right _ _ (by simp; omega), List.length_take, hl, Nat.min_eq_left (by omega), show j * m + i - j * m = i by omega, List.set_append_left _ _ (by omega)]
end
end Go.Proofs.YtgppfcaghjbjmaaDoor
