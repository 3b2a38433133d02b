/- Plain laws of records, more: what is packed is read, what is turned is refused. -/
import Derived.Test.YtjihemiofnhleaaPlain05
namespace Go.Proofs.Ytjihemiofnhleaa.Plain

theorem four_num {s : List UInt8} (h : 4 ≤ s.length) : four (num s) = s.take 4 := by
  obtain ⟨a, b, c, d, r, rfl⟩ := four_cases h
  have := a.toNat_lt; have := b.toNat_lt; have := c.toNat_lt; have := d.toNat_lt
  simp only [num, four, List.take_succ_cons, List.take_zero]
  congr 1
  · apply UInt8.toNat.inj; simp; omega
  congr 1
  · apply UInt8.toNat.inj; simp; omega
  congr 1
  · apply UInt8.toNat.inj; simp; omega
  congr 1
  · apply UInt8.toNat.inj; simp; omega

theorem record_length (p : List UInt8) : (record p).length = 8 + p.length := by simp [record, four_length]; omega

theorem num_record (p r : List UInt8) (hp : p.length ≤ 1048576) : num (record p ++ r) = p.length := by
  unfold record; rw [List.append_assoc, num_four _ (by omega)]

theorem record_take4 (p r : List UInt8) : (record p ++ r).take 4 = four p.length := by
  unfold record; rw [List.append_assoc, List.take_append_of_le_length (by simp [four_length])]; exact List.take_of_length_le (by simp [four_length])
theorem record_drop4 (p r : List UInt8) : (record p ++ r).drop 4 = four (crc (four p.length ++ p)) ++ (p ++ r) := by
  unfold record
  rw [List.append_assoc, List.append_assoc, List.drop_left' (four_length _)]
theorem record_drop8 (p r : List UInt8) : (record p ++ r).drop 8 = p ++ r := by
  rw [show 8 = 4 + 4 by rfl, ← List.drop_drop, record_drop4, List.drop_left' (four_length _)]

theorem next_record (p r : List UInt8) (hp : p.length ≤ 1048576) : next (record p ++ r) = (p, r, 0) := by
  have hl : (record p ++ r).length = 8 + p.length + r.length := by rw [List.length_append, record_length]
  have hn := num_record p r hp
  rw [next_ok (by omega) (by omega) (by omega) ?_, hn]
  · rw [record_drop8, List.take_left' rfl, ← List.drop_drop, record_drop8, List.drop_left' rfl]
  · rw [hn, record_drop4, record_take4, record_drop8, List.take_left' rfl, num_four _ (crc_lt _)]

theorem one_record (p : List UInt8) (hp : p.length ≤ 1048576) : one (record p) = (p, 0) := by
  have h := next_record p [] hp
  rw [List.append_nil] at h
  unfold one; rw [h]; simp

/-- what Next takes is a record -/
theorem record_of_next (s : List UInt8) (h : (next s).2.2 = 0) : s = record (next s).1 ++ (next s).2.1 ∧ (next s).1.length ≤ 1048576 := by
  have hr := next_rest s h
  refine ⟨?_, hr.2.2⟩
  unfold next at h hr ⊢
  split at h
  · cases h
  split at h
  · cases h
  split at h
  · cases h
  split at h
  · cases h
  · rename_i h1 h2 h3 h4
    rw [if_neg h1, if_neg h2, if_neg h3, if_neg h4]
    simp only
    have h4' : num (s.drop 4) = crc (s.take 4 ++ (s.drop 8).take (num s)) := by simpa using h4
    have hl : ((s.drop 8).take (num s)).length = num s := by simp; omega
    have e4 := four_num (s := s) (by omega)
    have e8 := four_num (s := s.drop 4) (by simp; omega)
    unfold record
    rw [hl, e4, ← h4', e8]
    rw [List.append_assoc, List.append_assoc]
    have : (s.drop 8).take (num s) ++ s.drop (8 + num s) = s.drop 8 := by
      rw [← List.drop_drop, List.take_append_drop]
    rw [this, show s.drop 8 = (s.drop 4).drop 4 by rw [List.drop_drop], List.take_append_drop, List.take_append_drop]

/-- what is read of a text: its records, as many as there are -/
theorem all_facts : ∀ (n : Nat) (s : List UInt8), s.length ≤ n → 8 * (all s).1.length + (all s).2.1.length ≤ s.length ∧ s = (all s).1.flatMap record ++ (all s).2.1 ∧ (∀ p ∈ (all s).1, p.length ≤ 1048576) ∧ ((all s).2.2 = 0 ↔ (all s).2.1 = []) := by
  intro n
  induction n with
  | zero => intro s h; rw [List.eq_nil_of_length_eq_zero (by omega : s.length = 0), all_nil]; simp
  | succ n ih =>
    intro s h
    by_cases hs : s = []
    · subst hs; rw [all_nil]; simp
    by_cases he : (next s).2.2 = 0
    · have hr := next_rest s he
      have hrec := record_of_next s he
      obtain ⟨i1, i2, i3, i4⟩ := ih (next s).2.1 (by omega)
      rw [all_more hs he]
      refine ⟨by simp; omega, ?_, ?_, i4⟩
      · simp only [List.flatMap_cons, List.append_assoc]
        rw [← i2]; exact hrec.1
      · intro p hp
        rcases List.mem_cons.1 hp with rfl | hp
        · exact hrec.2
        · exact i3 p hp
    · rw [all_err hs he]
      exact ⟨by simp, by simp, by simp, by simp [he, hs]⟩
theorem all_length (s : List UInt8) : (all s).1.length ≤ s.length := by have := (all_facts _ s (Nat.le_refl _)).1; omega

/-! ### one byte turned -/
theorem bit1_zero {a : Nat} (ha : a < 4294967296) (h : bit1 a = 0) : a = 0 := by
  unfold bit1 at h
  split at h
  · rename_i h1
    have h2 := congrArg (· ^^^ 3988292384) h
    simp only [Nat.xor_assoc, Nat.xor_self, Nat.xor_zero, Nat.zero_xor] at h2
    omega
  · omega
theorem xor_eq_zero {a b : Nat} (h : a ^^^ b = 0) : a = b := by
  have h2 := congrArg (· ^^^ b) h
  simpa [Nat.xor_assoc] using h2
theorem bit1_inj {a b : Nat} (ha : a < 4294967296) (hb : b < 4294967296) (h : bit1 a = bit1 b) : a = b := by
  apply xor_eq_zero
  apply bit1_zero (xor_lt ha hb)
  rw [bit1_xor, h, Nat.xor_self]
theorem bits1_inj (n : Nat) {a b : Nat} (ha : a < 4294967296) (hb : b < 4294967296) (h : bits1 n a = bits1 n b) : a = b := by
  induction n with
  | zero => exact h
  | succ n ih => exact ih (bit1_inj (bits1_lt ha) (bits1_lt hb) h)
theorem xor_inj {a b c : Nat} (h : a ^^^ c = b ^^^ c) : a = b := by
  have h2 := congrArg (· ^^^ c) h
  simpa [Nat.xor_assoc] using h2
theorem crcB_inj {a b : Nat} {c : UInt8} (ha : a < 4294967296) (hb : b < 4294967296) (h : crcB a c = crcB b c) : a = b := by
  have := c.toNat_lt
  exact xor_inj (bits1_inj 8 (xor_lt ha (by omega)) (xor_lt hb (by omega)) h)
theorem crcB_ne {v : Nat} {c d : UInt8} (hv : v < 4294967296) (h : crcB v c = crcB v d) : c = d := by
  have := c.toNat_lt; have := d.toNat_lt
  have h2 := bits1_inj 8 (xor_lt hv (by omega)) (xor_lt hv (by omega)) h
  rw [Nat.xor_comm v, Nat.xor_comm v] at h2
  exact UInt8.toNat.inj (xor_inj h2)
theorem foldl_inj (l : List UInt8) : ∀ {a b : Nat}, a < 4294967296 → b < 4294967296 → l.foldl crcB a = l.foldl crcB b → a = b := by
  induction l with
  | nil => intro a b _ _ h; exact h
  | cons c l ih => intro a b ha hb h; exact crcB_inj ha hb (ih (crcB_lt ha c) (crcB_lt hb c) h)
/-- texts that differ in one byte have two check sums -/
theorem crc_turned (pre suf : List UInt8) {c d : UInt8} (h : c ≠ d) : crc (pre ++ c :: suf) ≠ crc (pre ++ d :: suf) := by
  intro he
  have h1 := xor_inj he
  unfold crcRun at h1
  rw [List.foldl_append, List.foldl_append, List.foldl_cons, List.foldl_cons] at h1
  have hv := foldl_crcB_lt pre (v := 4294967295) (by omega)
  exact h (crcB_ne hv (foldl_inj suf (crcB_lt hv c) (crcB_lt hv d) h1))

theorem num_inj {s t : List UInt8} (hs : 4 ≤ s.length) (ht : 4 ≤ t.length) (h : num s = num t) : s.take 4 = t.take 4 := by
  rw [← four_num hs, ← four_num ht, h]

/-- whatever is read of a record one byte of which is another one: it is refused -/
theorem one_turned (p : List UInt8) (hp : p.length ≤ 1048576) (pre suf : List UInt8) {c d : UInt8} (hne : c ≠ d) (h : record p = pre ++ c :: suf) :
    (one (pre ++ d :: suf)).1 = [] ∧ (one (pre ++ d :: suf)).2 ≠ 0 := by
  generalize ht : pre ++ d :: suf = t
  have hlen : t.length = 8 + p.length := by
    rw [← ht]; have := congrArg List.length h; rw [record_length] at this; simp at this ⊢; omega
  have hnext : ∀ x, next t = x → x.2.2 ≠ 0 → x.1 = [] → x.2.1 = [] → (one t).1 = [] ∧ (one t).2 ≠ 0 := by
    intro x hx h1 h2 h3
    unfold one; rw [hx, h3]; simp [h2, h1]
  have hr4 := record_take4 p []
  have hr8 := record_drop4 p []
  rw [List.append_nil] at hr4
  rw [List.append_nil, List.append_nil] at hr8
  by_cases h8 : 8 ≤ pre.length
  · -- in the payload
    have et4 : t.take 4 = four p.length := by
      rw [← hr4, h, ← ht, List.take_append_of_le_length (by omega), List.take_append_of_le_length (by omega)]
    have hn : num t = p.length := by
      have h0 := four_num (s := t) (by omega)
      rw [et4] at h0
      have := congrArg num h0
      have e1 := num_four (num t) (num_lt t) []
      have e2 := num_four p.length (by omega) []
      rw [List.append_nil] at e1 e2
      rw [e1, e2] at this
      exact this
    have esum : num (t.drop 4) = crc (four p.length ++ p) := by
      have e1 : (t.drop 4).take 4 = four (crc (four p.length ++ p)) := by
        have : ((record p).drop 4).take 4 = four (crc (four p.length ++ p)) := by
          rw [hr8, List.take_append_of_le_length (by simp [four_length])]; exact List.take_of_length_le (by simp [four_length])
        rw [← this, h, ← ht, List.drop_append_of_le_length (by omega), List.drop_append_of_le_length (by omega), List.take_append_of_le_length (by simp; omega), List.take_append_of_le_length (by simp; omega)]
      have h0 := four_num (s := t.drop 4) (by simp; omega)
      rw [e1] at h0
      have := congrArg num h0
      have e2 := num_four (num (t.drop 4)) (num_lt _) []
      have e3 := num_four (crc (four p.length ++ p)) (crc_lt _) []
      rw [List.append_nil] at e2 e3
      rw [e2, e3] at this
      exact this
    have epay : t.drop 8 = pre.drop 8 ++ d :: suf := by rw [← ht, List.drop_append_of_le_length h8]
    have epay0 : p = pre.drop 8 ++ c :: suf := by
      have := record_drop8 p []
      rw [List.append_nil, List.append_nil, h, List.drop_append_of_le_length h8] at this
      exact this.symm
    refine hnext _ (next_sum (by omega) (by omega) (by omega) ?_) (by simp) rfl rfl
    rw [esum, et4, hn, List.take_of_length_le (by simp; omega), epay]
    conv => lhs; rw [show four p.length ++ p = (four p.length ++ pre.drop 8) ++ c :: suf by rw [List.append_assoc, ← epay0]]
    rw [← List.append_assoc]
    exact crc_turned _ _ hne
  · by_cases h4 : 4 ≤ pre.length
    · -- in the sum
      have et4 : t.take 4 = four p.length := by
        rw [← hr4, h, ← ht, List.take_append_of_le_length (by omega), List.take_append_of_le_length (by omega)]
      have hn : num t = p.length := by
        have h0 := four_num (s := t) (by omega)
        rw [et4] at h0
        have := congrArg num h0
        have e1 := num_four (num t) (num_lt t) []
        have e2 := num_four p.length (by omega) []
        rw [List.append_nil] at e1 e2
        rw [e1, e2] at this
        exact this
      have e8 : t.drop 8 = p := by
        have h0 := record_drop8 p []
        rw [List.append_nil, List.append_nil, h] at h0
        rw [← ht, ← h0, List.drop_append, List.drop_append, List.drop_of_length_le (l := pre) (by omega), List.nil_append, List.nil_append]
        obtain ⟨k, hk⟩ : ∃ k, 8 - pre.length = k + 1 := ⟨7 - pre.length, by omega⟩
        rw [hk]; rfl
      refine hnext _ (next_sum (by omega) (by omega) (by omega) ?_) (by simp) rfl rfl
      rw [et4, hn, e8, List.take_of_length_le (Nat.le_refl _)]
      intro he
      have h1 : num (t.drop 4) = num ((record p).drop 4) := by rw [he, hr8, num_four _ (crc_lt _)]
      have h2 := num_inj (by simp; omega) (by simp [record_length]; omega) h1
      rw [h, ← ht] at h2
      have h3 := congrArg (fun l : List UInt8 => l[pre.length - 4]?) h2
      simp only [List.getElem?_take, List.getElem?_drop] at h3
      rw [if_pos (by omega), if_pos (by omega), show 4 + (pre.length - 4) = pre.length by omega] at h3
      simp at h3
      exact hne h3.symm
    · -- in the length
      have hn : num t ≠ p.length := by
        intro he
        have h1 : num t = num (record p) := by
          have := num_record p [] hp
          rw [List.append_nil] at this
          rw [he, this]
        have h2 := num_inj (by omega) (by rw [record_length]; omega) h1
        rw [h, ← ht] at h2
        have h3 := congrArg (fun l : List UInt8 => l[pre.length]?) h2
        simp only [List.getElem?_take] at h3
        rw [if_pos (by omega), if_pos (by omega)] at h3
        simp at h3
        exact hne h3.symm
      by_cases hbig : 1048576 < num t
      · exact hnext _ (next_more (by omega) hbig) (by simp) rfl rfl
      by_cases hcut : t.length < 8 + num t
      · exact hnext _ (next_cut (by omega) (by omega) hcut) (by simp) rfl rfl
      by_cases hsum : num (t.drop 4) = crc (t.take 4 ++ (t.drop 8).take (num t))
      · have hx := next_ok (s := t) (by omega) (by omega) (by omega) hsum
        have hrest : t.drop (8 + num t) ≠ [] := by
          intro he; have := congrArg List.length he; simp at this; omega
        have : one t = ([], 32) := by unfold one; rw [if_pos (by rw [hx]; exact hrest)]
        rw [this]; simp
      · exact hnext _ (next_sum (by omega) (by omega) (by omega) hsum) (by simp) rfl rfl

end Go.Proofs.Ytjihemiofnhleaa.Plain
