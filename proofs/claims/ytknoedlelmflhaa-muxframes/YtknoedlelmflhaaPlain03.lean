/- Plain laws of numbers as bytes: no program in sight. -/
import Derived.Laws.BitsAllLaws
import Derived.Laws.BitsLemmas
namespace Go.Proofs.Ytknoedlelmflhaa.Plain

/-- a number's bytes, k of them at the most -/
def numF : Nat → Nat → List UInt8
  | 0, _ => []
  | k + 1, n => if n < 128 then [UInt8.ofNat n] else UInt8.ofNat (n % 128 + 128) :: numF k (n / 128)
def numB (n : Nat) : List UInt8 := numF 9 n
/-- the number at hand: i bytes of it are read -/
def numG : Nat → Nat → List UInt8 → Nat × List UInt8 × Nat
  | i, _, [] => (0, [], if 9 ≤ i then 31 else 30)
  | i, acc, c :: s => if i = 9 then (0, [], 31) else if c.toNat < 128 then (if c.toNat = 0 ∧ 0 < i then (0, [], 31) else (acc + c.toNat * 128 ^ i, s, 0)) else numG (i + 1) (acc + c.toNat % 128 * 128 ^ i) s
def numR (s : List UInt8) : Nat × List UInt8 × Nat := numG 0 0 s

theorem numF_length : ∀ k n, (numF k n).length ≤ k
  | 0, n => by simp [numF]
  | k + 1, n => by
    unfold numF; split
    · simp
    · have := numF_length k (n / 128); simp; omega
theorem numG_numF : ∀ (k i acc n : Nat) (r : List UInt8), i + k = 9 → n < 128 ^ k → (0 < i → 0 < n) → numG i acc (numF k n ++ r) = (acc + n * 128 ^ i, r, 0)
  | 0, i, acc, n, r, hi, hn, h0 => by simp at hn; omega
  | k + 1, i, acc, n, r, hi, hn, h0 => by
    unfold numF
    split
    · rename_i h
      have hc : (UInt8.ofNat n).toNat = n := by rw [UInt8.toNat_ofNat']; omega
      simp only [List.cons_append, List.nil_append, numG, hc]
      rw [if_neg (by omega), if_pos h, if_neg (by omega)]
    · rename_i h
      have hc : (UInt8.ofNat (n % 128 + 128)).toNat = n % 128 + 128 := by rw [UInt8.toNat_ofNat']; omega
      simp only [List.cons_append, numG, hc]
      rw [if_neg (by omega), if_neg (by omega), show (n % 128 + 128) % 128 = n % 128 by omega,
        numG_numF k (i + 1) _ (n / 128) r (by omega) (by rw [Nat.pow_succ] at hn; omega) (by omega)]
      have e : n * 128 ^ i = n % 128 * 128 ^ i + n / 128 * 128 ^ (i + 1) := by
        rw [Nat.pow_succ, ← Nat.mul_assoc, Nat.mul_right_comm (n / 128), ← Nat.add_mul]
        congr 1; omega
      rw [e, Nat.add_assoc]
theorem numG_short : ∀ (k i acc n m : Nat), i + k = 9 → m < (numF k n).length → numG i acc ((numF k n).take m) = (0, [], 30)
  | 0, i, acc, n, m, hi, hm => by simp [numF] at hm
  | k + 1, i, acc, n, m, hi, hm => by
    cases m with
    | zero => simp only [List.take_zero, numG]; rw [if_neg (by omega)]
    | succ m =>
      unfold numF at hm ⊢
      split at hm
      · simp at hm
      · rename_i h
        rw [if_neg h]
        have hc : (UInt8.ofNat (n % 128 + 128)).toNat = n % 128 + 128 := by rw [UInt8.toNat_ofNat']; omega
        simp only [List.take_succ_cons, numG, hc]
        rw [if_neg (by omega), if_neg (by omega)]
        exact numG_short k (i + 1) _ _ m (by omega) (by simpa using hm)
theorem numG_back : ∀ (s : List UInt8) (i acc v : Nat) (r : List UInt8), i ≤ 9 → numG i acc s = (v, r, 0) →
    ∃ n, s = numF (9 - i) n ++ r ∧ v = acc + n * 128 ^ i ∧ n < 128 ^ (9 - i) ∧ (0 < i → 0 < n)
  | [], i, acc, v, r, hi, h => by
    simp only [numG, Prod.mk.injEq] at h
    split at h <;> omega
  | c :: s, i, acc, v, r, hi, h => by
    have hc := c.toNat_lt
    simp only [numG] at h
    split at h
    · simp at h
    rename_i h9
    obtain ⟨k, hk⟩ : ∃ k, 9 - i = k + 1 := ⟨8 - i, by omega⟩
    rw [hk]
    split at h
    · split at h
      · simp at h
      · rename_i h1 h2
        simp only [Prod.mk.injEq, and_true] at h
        obtain ⟨rfl, rfl⟩ := h
        refine ⟨c.toNat, ?_, rfl, ?_, by omega⟩
        · unfold numF; rw [if_pos h1]; simp
        · have : 1 ≤ 128 ^ k := Nat.one_le_pow _ _ (by omega)
          rw [Nat.pow_succ]; omega
    · rename_i h1
      obtain ⟨n, h2, h3, h4, h5⟩ := numG_back s (i + 1) _ v r (by omega) h
      have hk2 : 9 - (i + 1) = k := by omega
      rw [hk2] at h2 h4
      refine ⟨n * 128 + c.toNat % 128, ?_, ?_, ?_, by omega⟩
      · unfold numF
        rw [if_neg (by omega), show (n * 128 + c.toNat % 128) % 128 + 128 = c.toNat by omega, show (n * 128 + c.toNat % 128) / 128 = n by omega]
        rw [h2, List.cons_append]
        congr 1
        rw [show c = UInt8.ofNat c.toNat from UInt8.ofNat_toNat.symm]
        simp
      · rw [h3, Nat.add_mul, Nat.pow_succ, Nat.mul_assoc n 128, Nat.mul_comm 128]; omega
      · rw [Nat.pow_succ]; omega

theorem numR_numB {n : Nat} (h : n < 9223372036854775808) (r : List UInt8) : numR (numB n ++ r) = (n, r, 0) := by
  have := numG_numF 9 0 0 n r rfl (by simpa using h) (by omega)
  rw [Nat.pow_zero, Nat.mul_one, Nat.zero_add] at this
  exact this
theorem numR_short {n m : Nat} (h : m < (numB n).length) : numR ((numB n).take m) = (0, [], 30) := numG_short 9 0 0 n m rfl h
theorem numR_back {s r : List UInt8} {v : Nat} (h : numR s = (v, r, 0)) : s = numB v ++ r ∧ v < 9223372036854775808 := by
  obtain ⟨n, h1, h2, h3, _⟩ := numG_back s 0 0 v r (by omega) h
  simp at h2 h3
  subst h2
  exact ⟨h1, h3⟩

/-! ### A reader: what is left, and its fault -/
abbrev St := List UInt8 × Nat
def takeR (pass : Nat → List UInt8 → List UInt8 × Nat) (st : St) : Nat × St :=
  if st.2 ≠ 0 then (0, st)
  else if (numR st.1).2.2 ≠ 0 then (0, (st.1, (numR st.1).2.2))
  else if (pass (numR st.1).1 (numR st.1).2.1).2 ≠ 0 then (0, (st.1, (pass (numR st.1).1 (numR st.1).2.1).2))
  else ((numR st.1).1, ((pass (numR st.1).1 (numR st.1).2.1).1, 0))
def passNum (_ : Nat) (rest : List UInt8) : List UInt8 × Nat := (rest, 0)
def passText (most : Int) (n : Nat) (rest : List UInt8) : List UInt8 × Nat := if most < n then ([], 32) else if rest.length < n then ([], 30) else (rest.drop n, 0)
def passCount (most least : Int) (n : Nat) (rest : List UInt8) : List UInt8 × Nat := if most < n then ([], 32) else if rest.length / (max least 1).toNat < n then ([], 30) else (rest, 0)
/-- the fault, or what is left -/
def endR (st : St) : Nat := if st.2 = 0 ∧ st.1 ≠ [] then 32 else st.2
end Go.Proofs.Ytknoedlelmflhaa.Plain
