/- lines doesn't ask which side is which: no program in sight. -/
import Derived.Test.YtgbiddjkjdggpaaDoorPlainMerge
namespace Go.Proofs.YtgbiddjkjdggpaaDoor.Plain

theorem chg_ft (o a : List (List UInt8)) : (chg o a).f ≤ (chg o a).t := by
  have := suf_le o a
  unfold chg; simp only; omega
theorem linesM_main (o a b : List UInt8) (h1 : ¬ a = b) (h2 : ¬ b = o) (h3 : ¬ a = o) : linesM o a b = if (chg (linesL o) (linesL b)).t < (chg (linesL o) (linesL a)).f then joinC (linesL o) (chg (linesL o) (linesL b)) (chg (linesL o) (linesL a)) else joinC (linesL o) (chg (linesL o) (linesL a)) (chg (linesL o) (linesL b)) := by
  have h : ¬ (a = b ∨ b = o) := by simp [h1, h2]
  unfold linesM
  rw [if_neg h, if_neg h3]
theorem linesM_comm (o a b : List UInt8) : linesM o a b = linesM o b a := by
  by_cases h1 : a = b
  · rw [h1]
  have h1' : ¬ b = a := fun e => h1 e.symm
  by_cases h2 : b = o
  · subst h2
    unfold linesM
    rw [if_pos (.inr rfl), if_neg (by simp [h1, h1']), if_pos rfl]
  by_cases h3 : a = o
  · subst h3
    unfold linesM
    rw [if_neg (by simp [h1, h1']), if_pos rfl, if_pos (.inr rfl)]
  rw [linesM_main o a b h1 h2 h3, linesM_main o b a h1' h3 h2]
  have p1 := chg_ft (linesL o) (linesL a)
  have p2 := chg_ft (linesL o) (linesL b)
  generalize chg (linesL o) (linesL a) = x at *
  generalize chg (linesL o) (linesL b) = y at *
  by_cases e1 : y.t < x.f
  · rw [if_pos e1, if_neg (by omega)]
  · by_cases e2 : x.t < y.f
    · rw [if_neg e1, if_pos e2]
    · rw [if_neg e1, if_neg e2]
      unfold joinC
      rw [if_neg e1, if_neg e2]
theorem linesM_left (o a : List UInt8) : linesM o a o = (a, true) := by unfold linesM; rw [if_pos (.inr rfl)]
theorem linesM_right (o b : List UInt8) : linesM o o b = (b, true) := by rw [linesM_comm, linesM_left]
end Go.Proofs.YtgbiddjkjdggpaaDoor.Plain
