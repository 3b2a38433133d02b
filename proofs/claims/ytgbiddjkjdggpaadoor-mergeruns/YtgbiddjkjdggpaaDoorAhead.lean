/- span.ahead, merge.longer, merge.Known. -/
import Derived.Test.YtgbiddjkjdggpaaDoorLines
import Derived.Deep.QuietTactic
import Derived.Test.YtgbiddjkjdggpaaDoorShelf
namespace Go.Proofs.YtgbiddjkjdggpaaDoor
open Go.RowKit Plain

theorem ahead_any (f t f' t' : Nat) (w : World) :
    Calls Tryd.prog 27 #[.agg #[.int .i64 f, .int .i64 t], .agg #[.int .i64 f', .int .i64 t']] w (Ret w (.bool (decide (t < f')))) := by
  have hB : decide ((t : Int) < (f' : Int)) = decide (t < f') := by congr 1; simp
  go_enter Tryd.func27, Tryd.ntmps27
  go_wp2_with (fail)
  go_ret
  exact ⟨rfl, ((Below.refl _ _).alloc (Nat.le_refl _) _).alloc (by simp) _⟩

def longerM (a b : List UInt8) : List UInt8 := if a.length < b.length ∨ a.length = b.length ∧ Op.bytesLess b a = true then b else a
theorem longer_any (a b : List UInt8) (w : World) :
    Calls Tryd.prog 18 #[.string ⟨a.toArray⟩, .string ⟨b.toArray⟩] w (Ret w (.string ⟨(longerM a b).toArray⟩)) := by
  by_cases h1 : a.length < b.length
  · have hl : longerM a b = b := by unfold longerM; rw [if_pos (.inl h1)]
    rw [hl]
    go_enter Tryd.func18, Tryd.ntmps18
    go_wp2_with (fail)
    go_ret
    exact ⟨rfl, Below.refl _ _⟩
  · by_cases h2 : (b.length : Int) = a.length
    · cases h3 : Op.bytesLess b a with
      | true =>
        have hl : longerM a b = b := by unfold longerM; rw [if_pos (.inr ⟨by omega, h3⟩)]
        rw [hl]
        clear hl
        go_enter Tryd.func18, Tryd.ntmps18
        go_wp2_with (fail)
        go_ret
        exact ⟨rfl, Below.refl _ _⟩
      | false =>
        have hl : longerM a b = a := by unfold longerM; rw [if_neg (by simp [h1, h3])]
        rw [hl]
        clear hl
        go_enter Tryd.func18, Tryd.ntmps18
        go_wp2_with (fail)
        go_ret
        exact ⟨rfl, Below.refl _ _⟩
    · have hl : longerM a b = a := by unfold longerM; rw [if_neg (by simp only [not_or, not_and]; exact ⟨h1, fun e => absurd e (by omega)⟩)]
      rw [hl]
      clear hl
      go_enter Tryd.func18, Tryd.ntmps18
      go_wp2_with (fail)
      go_ret
      exact ⟨rfl, Below.refl _ _⟩

def knowns : List ByteArray := [⟨#[97]⟩, ⟨#[98]⟩, ⟨#[117, 110, 105, 111, 110]⟩, ⟨#[108, 105, 110, 101, 115]⟩, ⟨#[108, 111, 110, 103, 101, 114]⟩]
theorem Known_any (p : List UInt8) (w : World) :
    Calls Tryd.prog 10 #[.string ⟨p.toArray⟩] w (Ret w (.bool (Lib.containsS knowns ⟨p.toArray⟩))) := by
  have hg := Tryd.slices_Contains_string w.heap.size 0 5 5 knowns ⟨p.toArray⟩ (w.alloc (.cells (knowns.map Value.string).toArray 9)) (by simp [knowns]) (by omega) (fun j hj => by
    rw [cell_of_row _ _ _ _ 9 (0, 0) (heap_alloc_new w _)]
    simp [hj])
  have HG := Lib.hid hg
  clear hg
  go_enter Tryd.func10, Tryd.ntmps10
  go_wp2_with (fail)
  refine HG.out.mono ?_
  rintro e w1 ⟨rfl, rfl⟩
  go_wp2_with (fail)
  go_ret
  exact ⟨rfl, (Below.refl _ _).alloc (Nat.le_refl _) _⟩

theorem bl_cons (x y : UInt8) (a b : List UInt8) : Op.bytesLess (x :: a) (y :: b) = (decide (x < y) || (x == y && Op.bytesLess a b)) := rfl
theorem bl_asymm : ∀ (a b : List UInt8), Op.bytesLess a b = true → Op.bytesLess b a = false
  | [], [], h => by simp [Op.bytesLess] at h
  | [], y :: b, _ => by simp [Op.bytesLess]
  | x :: a, [], h => by simp [Op.bytesLess] at h
  | x :: a, y :: b, h => by
    rw [bl_cons] at h ⊢
    simp only [Bool.or_eq_true, decide_eq_true_eq, Bool.and_eq_true, beq_iff_eq, Bool.or_eq_false_iff, decide_eq_false_iff_not, Bool.and_eq_false_imp] at h ⊢
    rcases h with h | ⟨rfl, h⟩
    · exact ⟨fun h2 => by rw [UInt8.lt_iff_toNat_lt] at h h2; omega, fun e => by subst e; exact absurd h (UInt8.lt_irrefl _)⟩
    · exact ⟨UInt8.lt_irrefl _, fun _ => bl_asymm a b h⟩
theorem bl_tri : ∀ (a b : List UInt8), a.length = b.length → Op.bytesLess a b = false → Op.bytesLess b a = false → a = b
  | [], [], _, _, _ => rfl
  | [], y :: b, h, _, _ => by simp at h
  | x :: a, [], h, _, _ => by simp at h
  | x :: a, y :: b, h, h1, h2 => by
    rw [bl_cons] at h1 h2
    simp only [decide_eq_true_eq, Bool.and_eq_true, beq_iff_eq, Bool.or_eq_false_iff, decide_eq_false_iff_not, Bool.and_eq_false_imp] at h1 h2
    have e : x = y := UInt8.toNat.inj (by
      have p1 := h1.1
      have p2 := h2.1
      rw [UInt8.lt_iff_toNat_lt] at p1 p2
      omega)
    subst e
    rw [bl_tri a b (by simpa using h) (h1.2 rfl) (h2.2 rfl)]
theorem longerM_self (a : List UInt8) : longerM a a = a := by unfold longerM; split <;> rfl
theorem longerM_comm (a b : List UInt8) : longerM a b = longerM b a := by
  unfold longerM
  by_cases h1 : a.length < b.length
  · rw [if_pos (.inl h1), if_neg (by simp only [not_or, not_and]; omega)]
  · by_cases h2 : b.length < a.length
    · rw [if_neg (by simp only [not_or, not_and]; omega), if_pos (.inl h2)]
    · have he : a.length = b.length := by omega
      cases h3 : Op.bytesLess b a with
      | true =>
        have h4 := bl_asymm _ _ h3
        rw [if_pos (.inr ⟨he, rfl⟩), if_neg (by simp [h4]; omega)]
      | false =>
        cases h4 : Op.bytesLess a b with
        | true => rw [if_neg (by simp; omega), if_pos (.inr ⟨he.symm, rfl⟩)]
        | false =>
          have := bl_tri a b he h4 h3
          subst this
          simp
theorem longerM_or (a b : List UInt8) : longerM a b = a ∨ longerM a b = b := by unfold longerM; split <;> simp
end Go.Proofs.YtgbiddjkjdggpaaDoor
