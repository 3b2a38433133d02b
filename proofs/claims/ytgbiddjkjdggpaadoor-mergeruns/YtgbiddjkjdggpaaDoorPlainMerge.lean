/- Plain laws of two texts made one: no program in sight. -/
import Derived.Test.YtgbiddjkjdggpaaDoorPlainCut
namespace Go.Proofs.YtgbiddjkjdggpaaDoor.Plain

/-- how many are alike at the beginning -/
def pre : List (List UInt8) → List (List UInt8) → Nat
  | x :: o, y :: a => if x = y then pre o a + 1 else 0
  | _, _ => 0
theorem pre_le : ∀ (o a : List (List UInt8)), pre o a ≤ o.length ∧ pre o a ≤ a.length
  | [], a => by simp [pre]
  | x :: o, [] => by simp [pre]
  | x :: o, y :: a => by
    have ih := pre_le o a
    unfold pre
    split <;> simp <;> omega
theorem pre_eq : ∀ (o a : List (List UInt8)) (k : Nat), k < pre o a → o[k]? = a[k]?
  | [], a, k, h => by simp [pre] at h
  | x :: o, [], k, h => by simp [pre] at h
  | x :: o, y :: a, k, h => by
    unfold pre at h
    split at h
    · rename_i e
      subst e
      cases k with
      | zero => rfl
      | succ k => simpa using pre_eq o a k (by omega)
    · omega
theorem pre_at : ∀ (o a : List (List UInt8)) (k : Nat) (h1 : k < o.length) (h2 : k < a.length), (∀ j, j < k → o[j]? = a[j]?) → o[k] ≠ a[k] → pre o a = k
  | [], a, k, h1, _, _, _ => by simp at h1
  | x :: o, [], k, _, h2, _, _ => by simp at h2
  | x :: o, y :: a, 0, _, _, _, hne => by
    unfold pre
    rw [if_neg (by simpa using hne)]
  | x :: o, y :: a, k + 1, h1, h2, hall, hne => by
    have h0 := hall 0 (by omega)
    simp only [List.getElem?_cons_zero, Option.some.injEq] at h0
    unfold pre
    rw [if_pos h0, pre_at o a k (by simpa using h1) (by simpa using h2) (fun j hj => by simpa using hall (j + 1) (by omega)) (by simpa using hne)]
theorem pre_all : ∀ (o a : List (List UInt8)), (∀ j, j < min o.length a.length → o[j]? = a[j]?) → pre o a = min o.length a.length
  | [], a, _ => by simp [pre]
  | x :: o, [], _ => by simp [pre]
  | x :: o, y :: a, h => by
    have h0 := h 0 (by simp)
    simp only [List.getElem?_cons_zero, Option.some.injEq] at h0
    unfold pre
    rw [if_pos h0, pre_all o a (fun j hj => by simpa using h (j + 1) (by simp at hj ⊢; omega))]
    simp

/-- how many are alike at the end, behind the first p -/
def suf (o a : List (List UInt8)) : Nat := pre (o.drop (pre o a)).reverse (a.drop (pre o a)).reverse
theorem suf_le (o a : List (List UInt8)) : pre o a + suf o a ≤ o.length ∧ pre o a + suf o a ≤ a.length := by
  have h := pre_le (o.drop (pre o a)).reverse (a.drop (pre o a)).reverse
  have h2 := pre_le o a
  simp only [List.length_reverse, List.length_drop] at h
  unfold suf
  omega
/-- the k-th from behind -/
theorem rev_get (o : List (List UInt8)) (p k : Nat) (hp : p + k < o.length) : (o.drop p).reverse[k]? = o[o.length - 1 - k]? := by
  rw [List.getElem?_reverse (by simp; omega), List.getElem?_drop, List.length_drop]
  congr 1; omega

/-- a change: from, to, what it has become -/
structure Chg where
  (f t : Nat) (l : List (List UInt8))
def chg (o a : List (List UInt8)) : Chg := ⟨pre o a, o.length - suf o a, (a.drop (pre o a)).take (a.length - suf o a - pre o a)⟩

def joinC (o : List (List UInt8)) (x y : Chg) : List UInt8 × Bool :=
  if x.t < y.f then ((o.take x.f ++ x.l ++ (o.drop x.t).take (y.f - x.t) ++ y.l ++ o.drop y.t).flatten, true) else ([], false)
def linesM (o a b : List UInt8) : List UInt8 × Bool :=
  if a = b ∨ b = o then (a, true) else if a = o then (b, true) else
    let x := chg (linesL o) (linesL a); let y := chg (linesL o) (linesL b)
    if y.t < x.f then joinC (linesL o) y x else joinC (linesL o) x y

theorem cons1_flat (x : UInt8) : ∀ (l : List (List UInt8)), l ≠ [] → (cons1 x l).flatten = x :: l.flatten
  | [], h => absurd rfl h
  | y :: l, _ => by simp [cons1]
theorem cutAt_flat (c : UInt8) : ∀ (s : List UInt8), (cutAt c [c] s).flatten = s
  | [] => by simp [cutAt]
  | x :: s => by
    rw [cutAt_cons]
    split
    · rename_i e
      subst e
      simp [cutAt_flat x s]
    · rw [cons1_flat x _ (cutAt_ne _ _ _), cutAt_flat c s]
theorem linesL_flat (s : List UInt8) : (linesL s).flatten = s := by
  obtain ⟨d, q, h⟩ := cutAt_last 10 [10] s
  have h2 := cutAt_flat 10 s
  unfold linesL
  rw [h] at h2 ⊢
  rw [trimLast_snoc]
  split
  · rename_i e; subst e; simpa using h2
  · exact h2
theorem flat_take_le (l : List (List UInt8)) (k : Nat) : (l.take k).flatten.length ≤ l.flatten.length := by
  conv => rhs; rw [← List.take_append_drop k l]
  rw [List.flatten_append, List.length_append]; omega
theorem flat_drop_le (l : List (List UInt8)) (k : Nat) : (l.drop k).flatten.length ≤ l.flatten.length := by
  conv => rhs; rw [← List.take_append_drop k l]
  rw [List.flatten_append, List.length_append]; omega
theorem chg_flat (o a : List (List UInt8)) : (chg o a).l.flatten.length ≤ a.flatten.length := Nat.le_trans (flat_take_le _ _) (flat_drop_le _ _)
theorem chg_le (o a : List (List UInt8)) : (chg o a).l.length ≤ a.length ∧ (chg o a).f ≤ o.length ∧ (chg o a).t ≤ o.length := by
  have := pre_le o a
  unfold chg; simp; omega
end Go.Proofs.YtgbiddjkjdggpaaDoor.Plain
