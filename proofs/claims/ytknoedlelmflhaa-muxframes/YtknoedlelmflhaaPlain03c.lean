/- Plain laws of what is read and written back. No program in sight. -/
import Derived.Test.YtknoedlelmflhaaPlain03b
namespace Go.Proofs.Ytknoedlelmflhaa.Plain
open Go.RowKit

/-- A call has read: a fault, and nothing is gone; or w is gone. -/
def StepR (s w : List UInt8) (st : St) : Prop := (st.2 ≠ 0 ∧ st.1 = s) ∨ (st.2 = 0 ∧ s = w ++ st.1 ∧ 1 ≤ w.length)

theorem numB_pos (n : Nat) : 1 ≤ (numB n).length := by
  unfold numB numF; split <;> simp
theorem takeR_cases (pass : Nat → List UInt8 → List UInt8 × Nat) (s : List UInt8) :
    (∃ e, e ≠ 0 ∧ takeR pass (s, 0) = (0, (s, e))) ∨ ∃ n rest r2, numR s = (n, rest, 0) ∧ pass n rest = (r2, 0) ∧ takeR pass (s, 0) = (n, (r2, 0)) := by
  rcases hnr : numR s with ⟨n, rest, e⟩
  by_cases he : e = 0
  · subst he
    rcases hps : pass n rest with ⟨r2, e2⟩
    by_cases he2 : e2 = 0
    · subst he2
      exact .inr ⟨n, rest, r2, rfl, hps, takeR_ok hnr hps⟩
    · exact .inl ⟨e2, he2, takeR_pass hnr hps he2⟩
  · exact .inl ⟨e, he, takeR_num hnr he⟩
theorem step_num (s : List UInt8) : StepR s (numB (takeR passNum (s, 0)).1) (takeR passNum (s, 0)).2 ∧ (takeR passNum (s, 0)).1 < 9223372036854775808 := by
  rcases takeR_cases passNum s with ⟨e, he, h⟩ | ⟨n, rest, r2, h1, h2, h⟩
  · rw [h]; exact ⟨.inl ⟨he, rfl⟩, by simp⟩
  · rw [h]
    have hb := numR_back h1
    simp only [passNum, Prod.mk.injEq, and_true] at h2
    subst h2
    exact ⟨.inr ⟨rfl, hb.1, numB_pos _⟩, hb.2⟩
theorem step_count (most least : Int) (s : List UInt8) : StepR s (numB (takeR (passCount most least) (s, 0)).1) (takeR (passCount most least) (s, 0)).2 ∧ (takeR (passCount most least) (s, 0)).1 < 9223372036854775808 := by
  rcases takeR_cases (passCount most least) s with ⟨e, he, h⟩ | ⟨n, rest, r2, h1, h2, h⟩
  · rw [h]; exact ⟨.inl ⟨he, rfl⟩, by simp⟩
  · rw [h]
    have hb := numR_back h1
    have : r2 = rest := by
      unfold passCount at h2
      split at h2
      · simp at h2
      · split at h2
        · simp at h2
        · simpa using h2.symm
    subst this
    exact ⟨.inr ⟨rfl, hb.1, numB_pos _⟩, hb.2⟩
theorem step_text (most : Int) (s : List UInt8) : StepR s (textB (textR most (s, 0))) (takeR (passText most) (s, 0)).2 ∧ (textR most (s, 0)).length ≤ s.length := by
  rcases hnr : numR s with ⟨n, rest, e⟩
  by_cases he : e = 0
  · subst he
    rcases hps : passText most n rest with ⟨r2, e2⟩
    by_cases he2 : e2 = 0
    · subst he2
      have hb := numR_back hnr
      have ht : textR most (s, 0) = rest.take n := by simp [textR, hnr, hps]
      rw [takeR_ok hnr hps, ht]
      have h3 : n ≤ rest.length ∧ r2 = rest.drop n := by
        unfold passText at hps
        split at hps
        · simp at hps
        · split at hps
          · simp at hps
          · exact ⟨by omega, by simpa using hps.symm⟩
      refine ⟨.inr ⟨rfl, ?_, ?_⟩, ?_⟩
      · unfold textB
        rw [List.length_take, Nat.min_eq_left h3.1, List.append_assoc, h3.2, List.take_append_drop]
        exact hb.1
      · have := numB_pos (rest.take n).length
        unfold textB; rw [List.length_append]; omega
      · rw [hb.1]; simp; omega
    · have ht : textR most (s, 0) = [] := by simp [textR, hnr, hps, he2]
      rw [takeR_pass hnr hps he2, ht]
      exact ⟨.inl ⟨he2, rfl⟩, by simp⟩
  · have ht : textR most (s, 0) = [] := by simp [textR, hnr, he]
    rw [takeR_num hnr he, ht]
    exact ⟨.inl ⟨he, rfl⟩, by simp⟩
theorem step_flag (s : List UInt8) : StepR s (flagB (flagR (s, 0)).1) (flagR (s, 0)).2 := by
  unfold flagR
  simp only [ne_eq, not_true_eq_false, if_false]
  cases s with
  | nil => exact .inl ⟨by simp, rfl⟩
  | cons c r =>
    by_cases h : 1 < c.toNat
    · simp only [if_pos h]; exact .inl ⟨by simp, rfl⟩
    · simp only [if_neg h]
      refine .inr ⟨rfl, ?_, by cases decide (c.toNat = 1) <;> simp [flagB]⟩
      have hc : c = UInt8.ofNat c.toNat := UInt8.ofNat_toNat.symm
      rcases (by omega : c.toNat = 0 ∨ c.toNat = 1) with h0 | h0
      · rw [h0] at hc; subst hc; rfl
      · rw [h0] at hc; subst hc; rfl
end Go.Proofs.Ytknoedlelmflhaa.Plain
