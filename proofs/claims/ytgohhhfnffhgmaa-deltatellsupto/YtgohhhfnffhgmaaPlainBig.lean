/- Plain laws of numbers in words of 32 bits: no program in sight. -/
import Derived.Laws.BitsAllLaws
namespace Go.Proofs.Ytgohhhfnffhgmaa.Plain

/-- what words of 32 bits say, the lowest ahead -/
def val : List Nat → Nat
  | [] => 0
  | x :: l => x + 4294967296 * val l
def Words (l : List Nat) : Prop := ∀ k, l.getD k 0 < 4294967296

theorem val_nil : val [] = 0 := rfl
theorem val_zeros (n : Nat) : val (List.replicate n 0) = 0 := by
  induction n with
  | zero => rfl
  | succ n ih => simp [List.replicate_succ, val, ih]
theorem val_append (l m : List Nat) : val (l ++ m) = val l + 4294967296 ^ l.length * val m := by
  induction l with
  | nil => simp [val]
  | cons x l ih =>
    simp only [List.cons_append, val, ih, List.length_cons, Nat.pow_succ]
    rw [Nat.mul_comm (4294967296 ^ l.length) 4294967296, Nat.mul_assoc]
    generalize 4294967296 ^ l.length * val m = p
    omega
theorem val_set : ∀ (l : List Nat) (k x : Nat), k < l.length → val (l.set k x) + l.getD k 0 * 4294967296 ^ k = val l + x * 4294967296 ^ k
  | [], _, _, h => by simp at h
  | y :: l, 0, x, _ => by simp [val]; omega
  | y :: l, k + 1, x, h => by
    have ih := val_set l k x (by simpa using h)
    simp only [List.set_cons_succ, val, List.getD_cons_succ, Nat.pow_succ]
    rw [← Nat.mul_assoc, ← Nat.mul_assoc]
    generalize l.getD k 0 * 4294967296 ^ k = p at *
    generalize x * 4294967296 ^ k = q at *
    omega
theorem val_take_succ : ∀ (l : List Nat) (k : Nat), val (l.take (k + 1)) = val (l.take k) + l.getD k 0 * 4294967296 ^ k
  | [], k => by simp [val]
  | y :: l, 0 => by simp [val]
  | y :: l, k + 1 => by
    have ih := val_take_succ l k
    simp only [List.take_succ_cons, val, List.getD_cons_succ, Nat.pow_succ] at ih ⊢
    rw [ih, ← Nat.mul_assoc]
    generalize l.getD k 0 * 4294967296 ^ k = p at *
    omega
theorem val_split : ∀ (l : List Nat) (k : Nat), Words l → ∃ r, val l = r + 4294967296 ^ k * l.getD k 0 + 4294967296 ^ k * (4294967296 * val (l.drop (k + 1))) ∧ r < 4294967296 ^ k
  | [], k, _ => ⟨0, by simp [val], Nat.pow_pos (by omega)⟩
  | y :: l, 0, _ => ⟨0, by simp [val], by simp⟩
  | y :: l, k + 1, h => by
    obtain ⟨r, h1, h2⟩ := val_split l k (fun j => by simpa using h (j + 1))
    have hy : y < 4294967296 := by simpa using h 0
    refine ⟨y + 4294967296 * r, ?_, ?_⟩
    · simp only [val, List.getD_cons_succ, List.drop_succ_cons, Nat.pow_succ]
      rw [Nat.mul_comm (4294967296 ^ k) 4294967296, Nat.mul_assoc, Nat.mul_assoc]
      generalize 4294967296 ^ k * l.getD k 0 = p at *
      generalize 4294967296 ^ k * (4294967296 * val (l.drop (k + 1))) = q at *
      omega
    · rw [Nat.pow_succ]; omega

theorem val_cmp (a b : List Nat) (i : Nat) (ha : Words a) (hb : Words b) (hd : val (a.drop (i + 1)) = val (b.drop (i + 1))) (hne : a.getD i 0 ≠ b.getD i 0) : (val b < val a ↔ b.getD i 0 < a.getD i 0) := by
  obtain ⟨r, h1, h2⟩ := val_split a i ha
  obtain ⟨s, h3, h4⟩ := val_split b i hb
  rw [h1, h3, hd]
  generalize 4294967296 ^ i * (4294967296 * val (b.drop (i + 1))) = q at *
  generalize a.getD i 0 = x at *
  generalize b.getD i 0 = y at *
  generalize 4294967296 ^ i = K at *
  rcases Nat.lt_or_ge y x with h | h
  · have := Nat.mul_le_mul_left K (show y + 1 ≤ x by omega)
    rw [Nat.mul_add, Nat.mul_one] at this
    constructor <;> intro _ <;> omega
  · have := Nat.mul_le_mul_left K (show x + 1 ≤ y by omega)
    rw [Nat.mul_add, Nat.mul_one] at this
    constructor <;> intro _ <;> omega

theorem drop_one (l : List Nat) (i : Nat) : val (l.drop i) = l.getD i 0 + 4294967296 * val (l.drop (i + 1)) := by
  induction l generalizing i with
  | nil => simp [val]
  | cons y l ih =>
    cases i with
    | zero => simp [val]
    | succ i => simpa using ih i

/-- what stands in the middle of the multiplication: row i, place j, c carried -/
structure TimesIn (a b v : List Nat) (i j c : Nat) : Prop where
  len : v.length = a.length + b.length + 1
  words : Words v
  zero : ∀ k, i + b.length ≤ k → i + j ≤ k → v.getD k 0 = 0
  eq : val v + c * 4294967296 ^ (i + j) = val (a.take i) * val b + a.getD i 0 * 4294967296 ^ i * val (b.take j)
  c_lt : c < 4294967296
  j_le : j ≤ b.length + 1
  c_end : j = b.length + 1 → c = 0

theorem getD_set (l : List Nat) (k x j : Nat) (h : k < l.length) : (l.set k x).getD j 0 = if j = k then x else l.getD j 0 := by
  simp only [List.getD_eq_getElem?_getD, List.getElem?_set]
  by_cases e : j = k
  · subst e; simp [h]
  · rw [if_neg (fun h => e h.symm), if_neg e]

theorem mul_bound {x y : Nat} (hx : x < 4294967296) (hy : y < 4294967296) : x * y ≤ 18446744065119617025 := by
  have := Nat.mul_le_mul (show x ≤ 4294967295 by omega) (show y ≤ 4294967295 by omega); omega

theorem TimesIn.step {a b v : List Nat} {i j c m : Nat} (h : TimesIn a b v i j c) (ha : Words a) (hi : i < a.length) (hgo : j < b.length ∧ m = a.getD i 0 * b.getD j 0 ∨ b.length ≤ j ∧ 0 < c ∧ m = 0) (hm : m ≤ 18446744065119617025) :
    TimesIn a b (v.set (i + j) ((v.getD (i + j) 0 + c + m) % 4294967296)) i (j + 1) ((v.getD (i + j) 0 + c + m) / 4294967296) ∧ v.getD (i + j) 0 + c + m < 18446744073709551616 ∧ i + j < v.length := by
  have hvk := h.words (i + j)
  have hc := h.c_lt
  have hj : j ≤ b.length := by
    have h1 := h.j_le
    have h2 := h.c_end
    omega
  have hlt : i + j < v.length := by rw [h.len]; omega
  have hend : b.length ≤ j → v.getD (i + j) 0 = 0 := fun hb => h.zero _ (by omega) (Nat.le_refl _)
  refine ⟨⟨by rw [List.length_set]; exact h.len, ?_, ?_, ?_, by omega, by omega, ?_⟩, by omega, hlt⟩
  · intro k
    rw [getD_set _ _ _ _ hlt]
    split
    · omega
    · exact h.words k
  · intro k h1 h2
    rw [getD_set _ _ _ _ hlt, if_neg (by omega)]
    exact h.zero k h1 (by omega)
  · have h1 := val_set v (i + j) ((v.getD (i + j) 0 + c + m) % 4294967296) hlt
    have h2 := h.eq
    have hmk : a.getD i 0 * 4294967296 ^ i * val (b.take (j + 1)) = a.getD i 0 * 4294967296 ^ i * val (b.take j) + m * 4294967296 ^ (i + j) := by
      rcases hgo with ⟨hjb, rfl⟩ | ⟨hjb, _, rfl⟩
      · rw [val_take_succ, Nat.mul_add, Nat.pow_add]
        congr 1
        generalize 4294967296 ^ i = X
        generalize 4294967296 ^ j = Y
        rw [Nat.mul_assoc, Nat.mul_assoc, Nat.mul_left_comm X]
      · rw [List.take_of_length_le (by omega), List.take_of_length_le (by omega)]; omega
    rw [hmk, show i + (j + 1) = (i + j) + 1 by omega, Nat.pow_succ]
    have ht := Nat.mod_add_div (v.getD (i + j) 0 + c + m) 4294967296
    have hK := congrArg (· * 4294967296 ^ (i + j)) ht
    simp only [Nat.add_mul] at hK
    have e2 : (v.getD (i + j) 0 + c + m) / 4294967296 * (4294967296 ^ (i + j) * 4294967296) = 4294967296 * ((v.getD (i + j) 0 + c + m) / 4294967296) * 4294967296 ^ (i + j) := by
      rw [Nat.mul_comm (4294967296 ^ (i + j)), ← Nat.mul_assoc, Nat.mul_comm 4294967296]
    rw [e2]
    generalize (v.getD (i + j) 0 + c + m) % 4294967296 * 4294967296 ^ (i + j) = p1 at *
    generalize 4294967296 * ((v.getD (i + j) 0 + c + m) / 4294967296) * 4294967296 ^ (i + j) = p2 at *
    generalize v.getD (i + j) 0 * 4294967296 ^ (i + j) = p3 at *
    generalize c * 4294967296 ^ (i + j) = p4 at *
    generalize m * 4294967296 ^ (i + j) = p5 at *
    omega
  · intro e
    have := hend (by omega)
    rcases hgo with ⟨hjb, _⟩ | ⟨_, _, rfl⟩
    · omega
    · omega

/-- a row more -/
theorem TimesIn.row {a b v : List Nat} {i j : Nat} (h : TimesIn a b v i j 0) (hj : b.length ≤ j) : TimesIn a b v (i + 1) 0 0 := by
  refine ⟨h.len, h.words, fun k h1 _ => h.zero k (by omega) (by have := h.j_le; omega), ?_, by omega, by omega, fun _ => rfl⟩
  have h1 := h.eq
  rw [List.take_of_length_le hj, Nat.zero_mul, Nat.add_zero] at h1
  rw [val_take_succ, Nat.add_mul, List.take_zero, val_nil, Nat.zero_mul, Nat.add_zero, h1, Nat.mul_zero, Nat.add_zero]
theorem TimesIn.start (a b : List Nat) : TimesIn a b (List.replicate (a.length + b.length + 1) 0) 0 0 0 := by
  have hz : ∀ n k, (List.replicate n 0).getD k 0 = 0 := by
    intro n k
    simp only [List.getD_eq_getElem?_getD, List.getElem?_replicate]; split <;> rfl
  refine ⟨by simp, fun k => by rw [hz]; omega, fun k _ _ => hz _ _, ?_, by omega, by omega, fun _ => rfl⟩
  rw [val_zeros, List.take_zero, List.take_zero, val_nil, Nat.mul_zero, Nat.zero_mul, Nat.zero_mul]
theorem TimesIn.done {a b v : List Nat} (h : TimesIn a b v a.length 0 0) : val v = val a * val b ∧ Words v := by
  have h1 := h.eq
  rw [List.take_of_length_le (Nat.le_refl _), List.take_zero, val_nil, Nat.mul_zero, Nat.zero_mul, Nat.add_zero, Nat.add_zero] at h1
  exact ⟨h1, h.words⟩

/-- u64s as cells -/
theorem pow_mono {x y k : Nat} (h : x ≤ y) : x ^ k ≤ y ^ k := Nat.pow_le_pow_left h k
end Go.Proofs.Ytgohhhfnffhgmaa.Plain
