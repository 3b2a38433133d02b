/- Plain laws of messages over a line: what a turned byte, a cut and another number do. -/
import Derived.Test.YtpkdnhkmoojplaaPlain15
namespace Go.Proofs.Ytpkdnhkmoojplaa.Plain

theorem four_inj {a b : Nat} (ha : a < 4294967296) (hb : b < 4294967296) (h : four a = four b) : a = b := by
  have e1 := num_four a ha []
  have e2 := num_four b hb []
  rw [h] at e1
  omega

/-! ### Check sums of four bytes and more -/
theorem bits1_pow (n k : Nat) : bits1 n (2 ^ n * k) = k := by
  induction n generalizing k with
  | zero => simp [bits1]
  | succ n ih =>
    show bit1 (bits1 n (2 ^ (n + 1) * k)) = k
    rw [Nat.pow_succ, Nat.mul_assoc, ih, bit1_even]
theorem crcB_bits (n x : Nat) (c : UInt8) : crcB (bits1 n x) c = bits1 (8 + n) (x ^^^ 2 ^ n * c.toNat) := by
  rw [bits1_add, bits1_xor, bits1_pow]; rfl
theorem crc4 (v : Nat) (a b c d : UInt8) : [a, b, c, d].foldl crcB v = bits1 32 (v ^^^ a.toNat ^^^ 256 * b.toNat ^^^ 65536 * c.toNat ^^^ 16777216 * d.toNat) := by
  have e0 : v = bits1 0 v := rfl
  simp only [List.foldl_cons, List.foldl_nil]
  conv => lhs; rw [e0]
  rw [crcB_bits, crcB_bits, crcB_bits, crcB_bits]
  simp
theorem xor_cancel {a b c : Nat} (h : c ^^^ a = c ^^^ b) : a = b := by
  rw [Nat.xor_comm c, Nat.xor_comm c] at h
  exact xor_inj h
theorem xor_mod256 (v a k : Nat) (n : Nat) (ha : a < 2 ^ n) : (v ^^^ a ^^^ 2 ^ n * k) % 2 ^ n = v % 2 ^ n ^^^ a := by
  rw [Nat.xor_mod_two_pow, Nat.xor_mod_two_pow, Nat.mul_mod_right, Nat.xor_zero, Nat.mod_eq_of_lt ha]
/-- four bytes: their check sum tells them apart -/
theorem crc4_inj {v : Nat} (hv : v < 4294967296) {a b c d a' b' c' d' : UInt8} (h : [a, b, c, d].foldl crcB v = [a', b', c', d'].foldl crcB v) : a = a' ∧ b = b' ∧ c = c' ∧ d = d' := by
  rw [crc4, crc4] at h
  have l1 := a.toNat_lt; have l2 := b.toNat_lt; have l3 := c.toNat_lt; have l4 := d.toNat_lt
  have l1' := a'.toNat_lt; have l2' := b'.toNat_lt; have l3' := c'.toNat_lt; have l4' := d'.toNat_lt
  have h1 := bits1_inj 32 (xor_lt (xor_lt (xor_lt (xor_lt hv (by omega)) (by omega)) (by omega)) (by omega)) (xor_lt (xor_lt (xor_lt (xor_lt hv (by omega)) (by omega)) (by omega)) (by omega)) h
  have rw1 : ∀ x y z t : UInt8, v ^^^ x.toNat ^^^ 256 * y.toNat ^^^ 65536 * z.toNat ^^^ 16777216 * t.toNat = v ^^^ (x.toNat ^^^ 2 ^ 8 * (y.toNat ^^^ 2 ^ 8 * (z.toNat ^^^ 2 ^ 8 * t.toNat))) := by
    intro x y z t
    have m : ∀ p q : Nat, 2 ^ 8 * (p ^^^ q) = 2 ^ 8 * p ^^^ 2 ^ 8 * q := by
      intro p q
      rw [Nat.mul_comm, Nat.mul_comm _ p, Nat.mul_comm _ q, ← Nat.shiftLeft_eq, ← Nat.shiftLeft_eq, ← Nat.shiftLeft_eq, Nat.shiftLeft_xor_distrib]
    rw [m, m, m, ← Nat.mul_assoc, ← Nat.mul_assoc, ← Nat.mul_assoc, ← Nat.xor_assoc, ← Nat.xor_assoc, ← Nat.xor_assoc]
  rw [rw1, rw1] at h1
  have h2 := xor_cancel h1
  have step : ∀ {x y : UInt8} {k j : Nat}, x.toNat ^^^ 2 ^ 8 * k = y.toNat ^^^ 2 ^ 8 * j → x = y ∧ k = j := by
    intro x y k j e
    have lx := x.toNat_lt; have ly := y.toNat_lt
    have e1 := congrArg (· % 2 ^ 8) e
    simp only [Nat.xor_mod_two_pow, Nat.mul_mod_right, Nat.xor_zero, Nat.mod_eq_of_lt lx, Nat.mod_eq_of_lt ly] at e1
    have e2 := UInt8.toNat.inj e1
    subst e2
    have e3 := xor_cancel e
    exact ⟨rfl, by omega⟩
  obtain ⟨r1, h2⟩ := step h2
  obtain ⟨r2, h2⟩ := step h2
  obtain ⟨r3, h2⟩ := step h2
  exact ⟨r1, r2, r3, UInt8.toNat.inj h2⟩
theorem crc_number {n m : Nat} (hn : n < 4294967296) (hm : m < 4294967296) (p : List UInt8) (h : crc (four n ++ p) = crc (four m ++ p)) : n = m := by
  have h1 := xor_inj h
  unfold crcRun at h1
  rw [List.foldl_append, List.foldl_append] at h1
  have h2 := foldl_inj p (foldl_crcB_lt _ (by omega)) (foldl_crcB_lt _ (by omega)) h1
  obtain ⟨e1, e2, e3, e4⟩ := crc4_inj (by omega) h2
  apply four_inj hn hm
  unfold four
  rw [e1, e2, e3, e4]

/-- texts that agree everywhere but at one place, and whose sums agree: they are the same -/
theorem agree_eq {A B : List UInt8} {f : Nat} (hl : A.length = B.length) (h : ∀ i, i ≠ f → A[i]? = B[i]?) (hc : crc A = crc B) : A = B := by
  by_cases hf : f < A.length
  · have hA : A = A.take f ++ A[f] :: A.drop (f + 1) := by rw [List.getElem_cons_drop, List.take_append_drop]
    have hB : B = A.take f ++ B[f] :: A.drop (f + 1) := by
      have h1 : A.take f = B.take f := by
        apply List.ext_getElem?
        intro i
        by_cases hi : i < f
        · rw [List.getElem?_take_of_lt hi, List.getElem?_take_of_lt hi]; exact h i (by omega)
        · rw [List.getElem?_eq_none (by simp; omega), List.getElem?_eq_none (by simp; omega)]
      have h2 : A.drop (f + 1) = B.drop (f + 1) := by
        apply List.ext_getElem?
        intro i
        rw [List.getElem?_drop, List.getElem?_drop]; exact h _ (by omega)
      rw [h1, h2, List.getElem_cons_drop, List.take_append_drop]
    by_cases hcd : A[f] = B[f]'(by omega)
    · rw [hA, hB, ← hcd]
    · rw [hA, hB] at hc
      exact absurd hc (crc_turned _ _ hcd)
  · apply List.ext_getElem?
    intro i
    by_cases hi : i = f
    · rw [List.getElem?_eq_none (by omega), List.getElem?_eq_none (by omega)]
    · exact h i hi

theorem frame_at0 (k : Nat) (p r : List UInt8) {i : Nat} (h : i < 4) : (frame k p ++ r)[i]? = (four p.length)[i]? := by
  rw [← frame_take4 k p r, List.getElem?_take_of_lt h]
theorem frame_at4 (k : Nat) (p r : List UInt8) {i : Nat} (h : i < 4) : (frame k p ++ r)[4 + i]? = (four (crc (four p.length)))[i]? := by
  rw [← List.getElem?_drop, frame_drop4, List.getElem?_append_left (by rw [four_length]; exact h)]
theorem frame_at8 (k : Nat) (p r : List UInt8) {i : Nat} (h : i < 4) : (frame k p ++ r)[8 + i]? = (four (crc (four k ++ p)))[i]? := by
  rw [← List.getElem?_drop, frame_drop8, List.getElem?_append_left (by rw [four_length]; exact h)]
theorem frame_at12 (k : Nat) (p r : List UInt8) {i : Nat} (h : i < p.length) : (frame k p ++ r)[12 + i]? = p[i]? := by
  rw [← List.getElem?_drop, frame_drop12, List.getElem?_append_left h]

/-- a frame that is cut, or of which one byte is another one: it isn't taken -/
theorem tf_bad {k : Nat} {p t : List UInt8} {f : Nat} (hp : p.length ≤ 1048576) (hag : ∀ i, i < t.length → i < 12 + p.length → i ≠ f → t[i]? = (frame k p)[i]?)
    (hbad : t.length < 12 + p.length ∨ (f < 12 + p.length ∧ t[f]? ≠ (frame k p)[f]?)) : takeFrame k t = none := by
  cases ht : takeFrame k t with
  | none => rfl
  | some x =>
    exfalso
    obtain ⟨q, r⟩ := x
    obtain ⟨rfl, hq⟩ := frame_of_tf ht
    have hlen : (frame k q ++ r).length = 12 + q.length + r.length := by rw [List.length_append, frame_length]
    have hag' : ∀ i, i < 12 + q.length → i < 12 + p.length → i ≠ f → (frame k q ++ r)[i]? = (frame k p ++ [])[i]? := by
      intro i h1 h2 h3; rw [List.append_nil]; exact hag i (by omega) h2 h3
    have out : ∀ (A B : List UInt8) (i : Nat), A.length = 4 → B.length = 4 → ¬ i < 4 → A[i]? = B[i]? := by
      intro A B i hA hB hi; rw [List.getElem?_eq_none (by omega), List.getElem?_eq_none (by omega)]
    have e1 : q.length = p.length := by
      have a0 : ∀ i, i ≠ f → (four q.length)[i]? = (four p.length)[i]? := by
        intro i hi
        by_cases h4 : i < 4
        · rw [← frame_at0 k q r h4, ← frame_at0 k p [] h4]; exact hag' i (by omega) (by omega) hi
        · exact out _ _ i (four_length _) (four_length _) h4
      apply four_inj (by omega) (by omega)
      by_cases hf : 4 ≤ f
      · apply List.ext_getElem?
        intro i
        by_cases h4 : i < 4
        · exact a0 i (by omega)
        · exact out _ _ i (four_length _) (four_length _) h4
      · apply agree_eq (by rw [four_length, four_length]) a0
        apply four_inj (crc_lt _) (crc_lt _)
        apply List.ext_getElem?
        intro i
        by_cases h4 : i < 4
        · rw [← frame_at4 k q r h4, ← frame_at4 k p [] h4]; exact hag' _ (by omega) (by omega) (by omega)
        · exact out _ _ i (four_length _) (four_length _) h4
    rcases hbad with hb | ⟨hf, hne⟩
    · omega
    apply hne
    have hpq : q = p := by
      have a12 : ∀ i, 12 + i ≠ f → q[i]? = p[i]? := by
        intro i hi
        by_cases h4 : i < q.length
        · rw [← frame_at12 k q r h4, ← frame_at12 k p [] (by omega)]; exact hag' _ (by omega) (by omega) hi
        · rw [List.getElem?_eq_none (by omega), List.getElem?_eq_none (by omega)]
      by_cases h12 : 12 ≤ f
      · have hc : crc (four k ++ q) = crc (four k ++ p) := by
          apply four_inj (crc_lt _) (crc_lt _)
          apply List.ext_getElem?
          intro i
          by_cases h4 : i < 4
          · rw [← frame_at8 k q r h4, ← frame_at8 k p [] h4]; exact hag' _ (by omega) (by omega) (by omega)
          · exact out _ _ i (four_length _) (four_length _) h4
        have := agree_eq (f := f - 8) (by simp [e1]) (fun i hi => ?_) hc
        · exact List.append_cancel_left this
        · by_cases h4 : i < 4
          · rw [List.getElem?_append_left (by rw [four_length]; exact h4), List.getElem?_append_left (by rw [four_length]; exact h4)]
          · rw [List.getElem?_append_right (by rw [four_length]; omega), List.getElem?_append_right (by rw [four_length]; omega), four_length]
            exact a12 _ (by omega)
      · exact List.ext_getElem? (fun i => a12 i (by omega))
    subst hpq
    rw [List.getElem?_append_left (by rw [frame_length]; omega)]
end Go.Proofs.Ytpkdnhkmoojplaa.Plain
