/- Plain laws of the union of two texts' lines: no program in sight. -/
import Derived.Test.YtgbiddjkjdggpaaDoorPlainMerge
import Derived.Lib.Strings
import Derived.Lib.SlicesS
namespace Go.Proofs.YtgbiddjkjdggpaaDoor.Plain

def toB (s : List UInt8) : ByteArray := ⟨s.toArray⟩
theorem toB_inj {s t : List UInt8} (h : toB s = toB t) : s = t := by
  unfold toB at h
  injection h with h
  simpa using congrArg Array.toList h
def hasL (l : List (List UInt8)) (s : List UInt8) : Bool := Lib.containsS (l.map toB) (toB s)
theorem hasL_iff (l : List (List UInt8)) (s : List UInt8) : hasL l s = true ↔ s ∈ l := by
  unfold hasL
  rw [Lib.containsS_iff, List.mem_map]
  exact ⟨fun ⟨t, h, e⟩ => by rw [← toB_inj e]; exact h, fun h => ⟨s, h, rfl⟩⟩
theorem hasL_take (l : List (List UInt8)) (s : List UInt8) (k : Nat) (hk : k < l.length) : hasL (l.take (k + 1)) s = (hasL (l.take k) s || (l[k] == s)) := by
  rw [Bool.eq_iff_iff, Bool.or_eq_true, hasL_iff, hasL_iff, List.take_succ_eq_append_getElem hk, List.mem_append]
  rw [List.mem_singleton, beq_iff_eq]
  exact or_congr Iff.rfl ⟨Eq.symm, Eq.symm⟩
theorem hasL_nil (s : List UInt8) : hasL [] s = false := by
  cases h : hasL [] s with
  | false => rfl
  | true => rw [hasL_iff] at h; cases h

/-- a line with its end -/
def fixE (s : List UInt8) : List UInt8 := if Lib.hasSuffix s [10] then s else s ++ [10]
def ends : List (List UInt8) → List (List UInt8)
  | [] => []
  | [x] => [x]
  | x :: y :: r => fixE x :: ends (y :: r)
theorem ends_length : ∀ (l : List (List UInt8)), (ends l).length = l.length
  | [] => rfl
  | [x] => rfl
  | x :: y :: r => by
    have ih := ends_length (y :: r)
    simp only [ends, List.length_cons] at ih ⊢
    omega
theorem ends_get : ∀ (l : List (List UInt8)) (i : Nat) (h : i < l.length), (ends l)[i]? = some (if i + 1 < l.length then fixE l[i] else l[i])
  | [], i, h => by simp at h
  | [x], i, h => by
    obtain rfl : i = 0 := by simp at h; omega
    simp [ends]
  | x :: y :: r, 0, h => by simp [ends]
  | x :: y :: r, i + 1, h => by
    have ih := ends_get (y :: r) i (by simpa using h)
    simp only [ends, List.getElem?_cons_succ, List.getElem_cons_succ]
    rw [ih]
    simp only [List.length_cons]
    congr 1
    by_cases hh : i + 1 < r.length + 1
    · rw [if_pos hh, if_pos (by omega)]
    · rw [if_neg hh, if_neg (by omega)]
theorem fixE_le (s : List UInt8) : (fixE s).length ≤ s.length + 1 := by unfold fixE; split <;> simp
theorem ends_flat : ∀ (l : List (List UInt8)), (ends l).flatten.length ≤ l.flatten.length + l.length
  | [] => by simp [ends]
  | [x] => by simp [ends]
  | x :: y :: r => by
    have ih := ends_flat (y :: r)
    have := fixE_le x
    simp only [ends, List.flatten_cons, List.length_append, List.length_cons] at ih ⊢
    omega
/-- one line further -/
theorem ends_step (l : List (List UInt8)) (i : Nat) (h : i < l.length) : (ends l).take (i + 1) ++ l.drop (i + 1) = ((ends l).take i ++ l.drop i).set i (if i + 1 < l.length then fixE l[i] else l[i]) := by
  have hl := ends_length l
  have hg := ends_get l i h
  rw [List.getElem?_eq_getElem (by omega)] at hg
  injection hg with hg
  rw [List.take_succ_eq_append_getElem (by omega), hg, List.set_append_right _ _ (by simp; omega), List.length_take, hl, Nat.min_eq_left (Nat.le_of_lt h), Nat.sub_self, List.append_assoc]
  congr 1
  conv => rhs; rw [List.drop_eq_getElem_cons h]
  rfl
theorem ends_same (l : List (List UInt8)) (i : Nat) (h : i < l.length) (hs : (if i + 1 < l.length then fixE l[i] else l[i]) = l[i]) : (ends l).take (i + 1) ++ l.drop (i + 1) = (ends l).take i ++ l.drop i := by
  have hl := ends_length l
  rw [ends_step l i h, hs, List.set_append_right _ _ (by simp; omega), List.length_take, hl, Nat.min_eq_left (Nat.le_of_lt h), Nat.sub_self]
  congr 1
  rw [List.drop_eq_getElem_cons h]
  rfl
theorem ends_row_get (l : List (List UInt8)) (i : Nat) (h : i < l.length) : ((ends l).take i ++ l.drop i)[i]? = some l[i] := by
  have hl := ends_length l
  rw [List.getElem?_append_right (by simp; omega)]
  simp [hl, Nat.min_eq_left (Nat.le_of_lt h)]
theorem ends_row_length (l : List (List UInt8)) (i : Nat) (h : i ≤ l.length) : ((ends l).take i ++ l.drop i).length = l.length := by
  have hl := ends_length l
  simp; omega

/-- a's lines, and b's that a has not -/
def addsL (x y : List (List UInt8)) : List (List UInt8) := y.filter fun s => !hasL x s
def unionL (x y : List (List UInt8)) : List (List UInt8) := x ++ addsL x y
def unionM (a b : List UInt8) : List UInt8 := (ends (unionL (linesL a) (linesL b))).flatten
theorem addsL_take (x y : List (List UInt8)) (k : Nat) (hk : k < y.length) : addsL x (y.take (k + 1)) = if hasL x y[k] then addsL x (y.take k) else addsL x (y.take k) ++ [y[k]] := by
  unfold addsL
  rw [List.take_succ_eq_append_getElem hk, List.filter_append]
  cases h : hasL x y[k] <;> simp [h]
theorem addsL_flat (x : List (List UInt8)) : ∀ (y : List (List UInt8)), (addsL x y).flatten.length ≤ y.flatten.length
  | [] => by simp [addsL]
  | s :: y => by
    have ih := addsL_flat x y
    unfold addsL at ih ⊢
    rw [List.filter_cons]
    split <;> simp <;> simp at ih <;> omega
theorem unionL_length (x y : List (List UInt8)) : (unionL x y).length ≤ x.length + y.length := by
  unfold unionL addsL
  rw [List.length_append]
  have := List.length_filter_le (fun s => !hasL x s) y
  omega
theorem unionL_flat (a b : List UInt8) : (unionL (linesL a) (linesL b)).flatten.length ≤ a.length + b.length := by
  have h3 := addsL_flat (linesL a) (linesL b)
  have h4 : (unionL (linesL a) (linesL b)).flatten.length = (linesL a).flatten.length + (addsL (linesL a) (linesL b)).flatten.length := by unfold unionL; simp
  rw [linesL_flat] at h3 h4
  omega
theorem flat_get (l : List (List UInt8)) (i : Nat) (h : i < l.length) : (l[i]).length ≤ l.flatten.length := by
  have h1 := flat_drop_le l i
  rw [List.drop_eq_getElem_cons h, List.flatten_cons, List.length_append] at h1
  omega
theorem unionM_le (a b : List UInt8) : (ends (unionL (linesL a) (linesL b))).flatten.length ≤ 2 * a.length + 2 * b.length + 2 := by
  have h1 := ends_flat (unionL (linesL a) (linesL b))
  have h2 := unionL_length (linesL a) (linesL b)
  have h3 := addsL_flat (linesL a) (linesL b)
  have h4 : (unionL (linesL a) (linesL b)).flatten.length = (linesL a).flatten.length + (addsL (linesL a) (linesL b)).flatten.length := by unfold unionL; simp
  have h5 := linesL_length a
  have h6 := linesL_length b
  rw [linesL_flat] at h3 h4
  omega

/-! ### lines -/
def IsLine (s : List UInt8) : Prop := ∃ p c, s = p ++ [c] ∧ (10 : UInt8) ∉ p
theorem trimLast_cons (x : List UInt8) (l : List (List UInt8)) (h : l ≠ []) : trimLast (x :: l) = x :: trimLast l := by
  cases l with
  | nil => exact absurd rfl h
  | cons y r => rfl
theorem linesL_nl (s : List UInt8) : linesL (10 :: s) = [10] :: linesL s := by
  unfold linesL
  rw [cutAt_cons, if_pos rfl, trimLast_cons _ _ (cutAt_ne _ _ _)]
theorem linesL_line : ∀ (s : List UInt8), ∀ q ∈ linesL s, IsLine q
  | [], q, h => by simp [linesL, cutAt, trimLast] at h
  | x :: s, q, h => by
    have ih := linesL_line s
    by_cases e : x = 10
    · subst e
      rw [linesL_nl, List.mem_cons] at h
      rcases h with rfl | h
      · exact ⟨[], 10, rfl, by simp⟩
      · exact ih q h
    · unfold linesL at h ih
      rw [cutAt_cons, if_neg e] at h
      have hne := cutAt_ne 10 [10] s
      generalize cutAt 10 [10] s = l at *
      have hx : ∀ q0, IsLine q0 → IsLine (x :: q0) := fun q0 ⟨p, c, h1, h2⟩ => ⟨x :: p, c, by rw [h1]; rfl, by simp [h2, Ne.symm e]⟩
      cases l with
      | nil => exact absurd rfl hne
      | cons q0 r =>
        cases r with
        | nil =>
          simp only [cons1, trimLast] at h ih
          rw [if_neg (by simp), List.mem_singleton] at h
          subst h
          by_cases e0 : q0 = []
          · subst e0; exact ⟨[], x, rfl, by simp⟩
          · rw [if_neg e0] at ih
            exact hx q0 (ih q0 (by simp))
        | cons y r =>
          simp only [cons1, trimLast, List.mem_cons] at h ih
          rcases h with rfl | h
          · exact hx q0 (ih q0 (.inl rfl))
          · exact ih q (.inr h)
theorem suffix_nl (p : List UInt8) (c : UInt8) : Lib.hasSuffix (p ++ [c]) [10] = (c == 10) := by
  unfold Lib.hasSuffix
  rw [Bool.eq_iff_iff, List.isSuffixOf_iff_suffix, beq_iff_eq]
  constructor
  · rintro ⟨t, h⟩
    have := congrArg List.reverse h
    simp at this
    exact this.1.symm
  · rintro rfl
    exact ⟨p, rfl⟩
theorem fixE_line (p : List UInt8) (c : UInt8) : fixE (p ++ [c]) = if c = 10 then p ++ [c] else p ++ [c] ++ [10] := by
  unfold fixE
  rw [suffix_nl]
  by_cases h : c = 10 <;> simp [h]
theorem linesL_full (p r : List UInt8) (h : (10 : UInt8) ∉ p) : linesL (p ++ 10 :: r) = (p ++ [10]) :: linesL r := by
  unfold linesL
  rw [cutAt_first _ _ _ _ h, trimLast_cons _ _ (cutAt_ne _ _ _)]
theorem linesL_one {s : List UInt8} (h : IsLine s) : linesL s = [s] := by
  obtain ⟨p, c, rfl, hp⟩ := h
  by_cases e : c = 10
  · subst e
    rw [linesL_full p [] hp]
    rfl
  · unfold linesL
    rw [cutAt_none _ _ _ (by simp [hp, Ne.symm e])]
    simp [trimLast]
theorem linesL_ends : ∀ (l : List (List UInt8)), (∀ s ∈ l, IsLine s) → linesL (ends l).flatten = ends l
  | [], _ => rfl
  | [x], h => by
    simp only [ends, List.flatten_cons, List.flatten_nil, List.append_nil]
    exact linesL_one (h x (by simp))
  | x :: y :: r, h => by
    have ih := linesL_ends (y :: r) (fun s hs => h s (List.mem_cons_of_mem _ hs))
    obtain ⟨p, c, rfl, hp⟩ := h x (by simp)
    simp only [ends, List.flatten_cons]
    rw [fixE_line]
    by_cases e : c = 10
    · subst e
      rw [if_pos rfl, List.append_assoc, List.singleton_append, linesL_full p _ hp, ih]
    · rw [if_neg e, List.append_assoc, List.singleton_append, linesL_full _ _ (by simp [hp, Ne.symm e]), ih]
theorem unionL_line (a b : List UInt8) : ∀ s ∈ unionL (linesL a) (linesL b), IsLine s := by
  intro s hs
  unfold unionL addsL at hs
  rw [List.mem_append, List.mem_filter] at hs
  rcases hs with h | h
  · exact linesL_line a s h
  · exact linesL_line b s h.1
theorem linesL_unionM (a b : List UInt8) : linesL (unionM a b) = ends (unionL (linesL a) (linesL b)) := linesL_ends _ (unionL_line a b)

/-- each line of both is there -/
theorem mem_ends : ∀ (l : List (List UInt8)) (s : List UInt8), s ∈ l → s ∈ ends l ∨ s ++ [10] ∈ ends l
  | [], s, h => by cases h
  | [x], s, h => .inl h
  | x :: y :: r, s, h => by
    rw [List.mem_cons] at h
    rcases h with rfl | h
    · unfold ends fixE
      split
      · exact .inl (by simp)
      · exact .inr (by simp)
    · rcases mem_ends (y :: r) s h with h | h
      · exact .inl (by unfold ends; exact List.mem_cons_of_mem _ h)
      · exact .inr (by unfold ends; exact List.mem_cons_of_mem _ h)
theorem of_ends : ∀ (l : List (List UInt8)) (q : List UInt8), q ∈ ends l → ∃ s ∈ l, q = s ∨ q = s ++ [10]
  | [], q, h => by cases h
  | [x], q, h => ⟨q, h, .inl rfl⟩
  | x :: y :: r, q, h => by
    unfold ends at h
    rw [List.mem_cons] at h
    rcases h with rfl | h
    · refine ⟨x, by simp, ?_⟩
      unfold fixE
      split
      · exact .inl rfl
      · exact .inr rfl
    · obtain ⟨s, h1, h2⟩ := of_ends (y :: r) q h
      exact ⟨s, List.mem_cons_of_mem _ h1, h2⟩
theorem mem_unionL (x y : List (List UInt8)) (s : List UInt8) : s ∈ unionL x y ↔ s ∈ x ∨ s ∈ y := by
  unfold unionL addsL
  rw [List.mem_append, List.mem_filter]
  constructor
  · rintro (h | h)
    · exact .inl h
    · exact .inr h.1
  · rintro (h | h)
    · exact .inl h
    · by_cases hx : s ∈ x
      · exact .inl hx
      · refine .inr ⟨h, ?_⟩
        cases hh : hasL x s with
        | false => rfl
        | true => rw [hasL_iff] at hh; exact absurd hh hx
end Go.Proofs.YtgbiddjkjdggpaaDoor.Plain
