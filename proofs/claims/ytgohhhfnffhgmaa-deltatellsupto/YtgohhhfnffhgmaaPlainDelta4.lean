/- Plain: the text that steps make; how much is new. No program in sight. -/
import Derived.Test.YtgohhhfnffhgmaaPlainDelta3
namespace Go.Proofs.Ytgohhhfnffhgmaa.Plain

def cutP (base : List UInt8) (size f c : Nat) : List UInt8 := (base.drop (f * size)).take (c * size)
def copiesP (N : Nat) (o : Stp) : Bool := decide (0 < o.count) && o.t.isEmpty && decide (0 ≤ o.from') && decide (o.from' < N) && decide (o.count ≤ N - o.from')
def saysP (o : Stp) : Bool := decide (o.count = 0) && decide (o.from' = 0) && !o.t.isEmpty
def moreP (base : List UInt8) (size : Nat) (o : Stp) : Option (List UInt8) :=
  if copiesP (countB base.length size) o then some (cutP base size o.from'.toNat o.count.toNat) else if saysP o then some o.t else none
def applyP (base : List UInt8) (size : Nat) : List Stp → List UInt8 → List UInt8 × Nat
  | [], out => (out, 0)
  | o :: l, out =>
    match moreP base size o with
    | none => ([], 140)
    | some x => if 65536 < (out ++ x).length then ([], 32) else applyP base size l (out ++ x)
def newP : List Stp → Nat
  | [] => 0
  | o :: l => o.t.length + newP l
theorem newP_append (l m : List Stp) : newP (l ++ m) = newP l + newP m := by
  induction l with
  | nil => simp [newP]
  | cons o l ih => simp [newP, ih]; omega
theorem newP_take {l : List Stp} {k : Nat} (h : k < l.length) : newP (l.take (k + 1)) = newP (l.take k) + l[k].t.length := by
  rw [List.take_succ_eq_append_getElem h, newP_append]; simp [newP]
theorem newP_take_le (l : List Stp) (k : Nat) : newP (l.take k) ≤ newP l := by
  have := newP_append (l.take k) (l.drop k)
  rw [List.take_append_drop] at this
  omega
section
variable {base : List UInt8} {size : Nat} {l : List Stp} {out : List UInt8}
theorem applyP_at {k : Nat} (h : k < l.length) : applyP base size (l.drop k) out = match moreP base size l[k] with
    | none => ([], 140)
    | some x => if 65536 < (out ++ x).length then ([], 32) else applyP base size (l.drop (k + 1)) (out ++ x) := by
  rw [List.drop_eq_getElem_cons h]; rfl
theorem applyP_none {k : Nat} (h : k < l.length) (hm : moreP base size l[k] = none) : applyP base size (l.drop k) out = ([], 140) := by rw [applyP_at h, hm]
theorem applyP_much {k : Nat} {x : List UInt8} (h : k < l.length) (hm : moreP base size l[k] = some x) (hx : 65536 < (out ++ x).length) : applyP base size (l.drop k) out = ([], 32) := by rw [applyP_at h, hm]; simp only; rw [if_pos hx]
theorem applyP_on {k : Nat} {x : List UInt8} (h : k < l.length) (hm : moreP base size l[k] = some x) (hx : ¬ 65536 < (out ++ x).length) : applyP base size (l.drop k) out = applyP base size (l.drop (k + 1)) (out ++ x) := by rw [applyP_at h, hm]; simp only; rw [if_neg hx]
theorem applyP_end : applyP base size (l.drop l.length) out = (out, 0) := by rw [List.drop_length]; rfl
theorem cutP_next {f c : Nat} : cutP base size f (c + 1) = cutP base size f c ++ blockP base size (f + c) := by
  unfold cutP blockP
  rw [Nat.add_mul, Nat.one_mul, List.take_add, List.drop_drop, Nat.add_mul]
theorem cutP_length_le (f c : Nat) : (cutP base size f c).length ≤ base.length := by unfold cutP; simp; omega
/-- as delta cuts -/
theorem cutP_go {f c E : Nat} (hE : E = min ((f + c) * size) base.length) : cutP base size f c = (base.drop (f * size)).take (E - f * size) := by
  unfold cutP
  rw [hE, Nat.add_mul]
  by_cases q : f * size + c * size ≤ base.length
  · rw [Nat.min_eq_left q]; congr 1; omega
  · rw [Nat.min_eq_right (by omega), List.take_of_length_le (by simp; omega), List.take_of_length_le (by simp)]
theorem copies_iff {N : Nat} {o : Stp} : copiesP N o = true ↔ 0 < o.count ∧ o.t = [] ∧ 0 ≤ o.from' ∧ o.from' < N ∧ o.count ≤ N - o.from' := by
  simp [copiesP, and_assoc]
theorem says_iff {o : Stp} : saysP o = true ↔ o.count = 0 ∧ o.from' = 0 ∧ o.t ≠ [] := by
  simp [saysP, and_assoc]
theorem more_copies {o : Stp} (h : copiesP (countB base.length size) o = true) : moreP base size o = some (cutP base size o.from'.toNat o.count.toNat) := by unfold moreP; rw [if_pos h]
theorem more_says {o : Stp} (h : ¬ copiesP (countB base.length size) o = true) (h2 : saysP o = true) : moreP base size o = some o.t := by unfold moreP; rw [if_neg h, if_pos h2]
theorem more_none {o : Stp} (h : ¬ copiesP (countB base.length size) o = true) (h2 : ¬ saysP o = true) : moreP base size o = none := by unfold moreP; rw [if_neg h, if_neg h2]
end
end Go.Proofs.Ytgohhhfnffhgmaa.Plain
