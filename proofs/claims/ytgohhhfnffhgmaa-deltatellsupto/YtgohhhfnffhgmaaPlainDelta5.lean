/- Plain: of a text itself nothing is new; the text of the test. No program in sight. -/
import Derived.Test.YtgohhhfnffhgmaaPlainDelta4
namespace Go.Proofs.Ytgohhhfnffhgmaa.Plain

section
variable {data : List UInt8} {l : List Blk} {size : Nat}
theorem newP_copy (ops : List Stp) (i : Nat) : newP (copyP ops i) = newP ops := by
  rcases nil_or_last ops with rfl | ⟨init, o, rfl⟩
  · simp [copyP, newP]
  · unfold copyP
    simp only [List.getLast?_append, List.getLast?_singleton, Option.some_or, List.dropLast_concat]
    split
    · simp [newP_append, newP]
    · simp [newP_append, newP]
theorem newP_byte (ops : List Stp) (c : UInt8) : newP (byteP ops c) = newP ops + 1 := by
  rcases nil_or_last ops with rfl | ⟨init, o, rfl⟩
  · simp [byteP, newP]
  · unfold byteP
    simp only [List.getLast?_append, List.getLast?_singleton, Option.some_or, List.dropLast_concat]
    split
    · simp [newP_append, newP] <;> omega
    · simp [newP_append, newP] <;> omega
theorem goR_new {B : Nat} (hs : 1 ≤ size) (hB : B ≤ data.length) (H : ∀ k, k * size < B → (matchP l (pieceD data size (k * size))).isSome = true) :
    ∀ (f a : Nat) (ops : List Stp), a ≤ data.length → (a < B → (∃ k, a = k * size) ∧ newP ops = 0) → (B ≤ a → newP ops ≤ a - B) → data.length - a ≤ f → newP (goR data l size f a ops) ≤ data.length - B := by
  intro f
  induction f with
  | zero =>
    intro a ops h1 h2 h3 h4
    have := h3 (by omega)
    show newP ops ≤ _
    omega
  | succ f ih =>
    intro a ops h1 h2 h3 h4
    unfold goR
    by_cases hlt : a < data.length
    · rw [if_pos hlt]
      have hon := stepR_on (l := l) (ops := ops) hs hlt
      have hl := pieceD_length (data := data) (size := size) a
      refine ih _ _ hon.2 ?_ ?_ (by omega)
      · intro hb
        have hab : a < B := by omega
        obtain ⟨⟨k, rfl⟩, h0⟩ := h2 hab
        have hm := H k hab
        cases hq : matchP l (pieceD data size (k * size)) with
        | none => rw [hq] at hm; cases hm
        | some i =>
          have e : stepR data l size (k * size) ops = (k * size + (pieceD data size (k * size)).length, copyP ops i) := by unfold stepR; rw [hq]
          rw [e] at hb ⊢
          simp only at hb ⊢
          refine ⟨⟨k + 1, ?_⟩, by rw [newP_copy, h0]⟩
          rw [Nat.add_mul, Nat.one_mul, hl]
          rw [hl] at hb
          omega
      · intro hb
        cases hq : matchP l (pieceD data size a) with
        | none =>
          have e : stepR data l size a ops = (a + 1, byteP ops (data.getD a 0)) := by unfold stepR; rw [hq]
          rw [e] at hb ⊢
          simp only at hb ⊢
          rw [newP_byte]
          by_cases hab : a < B
          · obtain ⟨⟨k, rfl⟩, h0⟩ := h2 hab
            have hm := H k hab
            rw [hq] at hm; cases hm
          · have := h3 (by omega); omega
        | some i =>
          have e : stepR data l size a ops = (a + (pieceD data size a).length, copyP ops i) := by unfold stepR; rw [hq]
          rw [e] at hb ⊢
          simp only at hb ⊢
          rw [newP_copy]
          by_cases hab : a < B
          · rw [(h2 hab).2]; omega
          · have := h3 (by omega); omega
    · rw [if_neg hlt]
      have := h3 (by omega)
      omega
theorem make_new {B : Nat} (hs : 1 ≤ size) (hB : B ≤ data.length) (H : ∀ k, k * size < B → (matchP l (pieceD data size (k * size))).isSome = true) : newP (makeP data l size) ≤ data.length - B :=
  goR_new hs hB H data.length 0 [] (by omega) (fun _ => ⟨⟨0, by simp⟩, rfl⟩) (fun _ => by simp [newP]) (by omega)
theorem make_new_le (hs : 1 ≤ size) : newP (makeP data l size) ≤ data.length := by
  have := make_new (data := data) (l := l) (B := 0) hs (Nat.zero_le _) (fun k hk => absurd hk (Nat.not_lt_zero _))
  omega
theorem fits_told (b : List UInt8) : fits b (told b) = true := by simp [fits, told]
theorem match_told {b : List UInt8} (h : told b ∈ l) : (matchP l b).isSome = true := by
  cases hm : matchP l b with
  | some i => rfl
  | none =>
    unfold matchP at hm
    rw [List.findIdx?_eq_none_iff] at hm
    have := hm _ h
    rw [fits_told] at this; cases this
theorem told_mem {base : List UInt8} {k : Nat} (hs : 1 ≤ size) (h : k * size < base.length) : told (blockP base size k) ∈ signP base size :=
  List.mem_map_of_mem (List.mem_map.2 ⟨k, List.mem_range.2 ((countB_lt hs).2 h), rfl⟩)
/-- of a text itself nothing is new -/
theorem make_self (base : List UInt8) (hs : 1 ≤ size) : newP (makeP base (signP base size) size) = 0 := by
  have := make_new (data := base) (l := signP base size) (B := base.length) hs (Nat.le_refl _) (fun k hk => match_told (told_mem hs hk))
  omega
theorem make_more (base more : List UInt8) (hs : 1 ≤ size) (hm : base.length % size = 0) : newP (makeP (base ++ more) (signP base size) size) ≤ more.length := by
  have := make_new (data := base ++ more) (l := signP base size) (B := base.length) hs (by simp) (fun k hk => by
    have e : pieceD (base ++ more) size (k * size) = blockP base size k := by
      unfold pieceD blockP
      obtain ⟨m, hm2⟩ : ∃ m, base.length = m * size := ⟨base.length / size, by have := Nat.div_add_mod base.length size; rw [Nat.mul_comm] at this; omega⟩
      have hkm : k < m := by
        rcases Nat.lt_or_ge k m with h | h
        · exact h
        · have := Nat.mul_le_mul_right size h; omega
      have h2 : (k + 1) * size ≤ m * size := Nat.mul_le_mul_right size hkm
      rw [Nat.add_mul, Nat.one_mul] at h2
      rw [List.drop_append_of_le_length (by omega), List.take_append_of_le_length (by simp; omega)]
    rw [e]
    exact match_told (told_mem hs hk))
  simpa using this
end

theorem copy_len (ops : List Stp) (i : Nat) : (copyP ops i).length ≤ ops.length + 1 := by
  rcases nil_or_last ops with rfl | ⟨init, o, rfl⟩
  · simp [copyP]
  · unfold copyP
    simp only [List.getLast?_append, List.getLast?_singleton, Option.some_or, List.dropLast_concat]
    split <;> simp
theorem byte_len (ops : List Stp) (c : UInt8) : (byteP ops c).length ≤ ops.length + 1 := by
  rcases nil_or_last ops with rfl | ⟨init, o, rfl⟩
  · simp [byteP]
  · unfold byteP
    simp only [List.getLast?_append, List.getLast?_singleton, Option.some_or, List.dropLast_concat]
    split <;> simp
theorem goR_len {data : List UInt8} {l : List Blk} {size : Nat} (hs : 1 ≤ size) : ∀ (f a : Nat) (ops : List Stp), a ≤ data.length → ops.length ≤ a → (goR data l size f a ops).length ≤ data.length := by
  intro f
  induction f with
  | zero => intro a ops h1 h2; show ops.length ≤ _; omega
  | succ f ih =>
    intro a ops h1 h2
    unfold goR
    by_cases hlt : a < data.length
    · rw [if_pos hlt]
      have hon := stepR_on (l := l) (ops := ops) hs hlt
      refine ih _ _ hon.2 ?_
      have hl : (stepR data l size a ops).2.length ≤ ops.length + 1 := by
        unfold stepR
        cases matchP l (pieceD data size a) with
        | none => exact byte_len _ _
        | some i => exact copy_len _ _
      omega
    · rw [if_neg hlt]; omega
theorem make_len {data : List UInt8} {l : List Blk} {size : Nat} (hs : 1 ≤ size) : (makeP data l size).length ≤ data.length := goR_len hs _ 0 [] (by omega) (by simp)

/-! ### the text of the test -/
def tB : List UInt8 := [97, 98, 99, 100, 97, 98]
def tD : List UInt8 := [120, 97, 98, 99, 100, 97, 98]
theorem t_sign : signP tB 4 = [told [97, 98, 99, 100], told [97, 98]] := rfl
set_option maxRecDepth 10000 in
theorem t_none : matchP (signP tB 4) (pieceD tD 4 0) = none := by
  rw [t_sign]
  have h : NoneOf [told [97, 98, 99, 100], told [97, 98]] (pieceD tD 4 0) 2 := by
    refine ((NoneOf.zero _ _).next (by decide) (fits_w' ?_)).next (by decide) (fits_w' ?_)
    · show weak [97, 98, 99, 100] ≠ weak [120, 97, 98, 99]; decide
    · show weak [97, 98] ≠ weak [120, 97, 98, 99]; decide
  exact NoneOf.all h
set_option maxRecDepth 10000 in
theorem t_first : matchP (signP tB 4) (pieceD tD 4 1) = some 0 := by
  rw [t_sign]
  exact (NoneOf.zero _ _).found (by decide) (fits_told [97, 98, 99, 100])
set_option maxRecDepth 10000 in
theorem t_second : matchP (signP tB 4) (pieceD tD 4 5) = some 1 := by
  rw [t_sign]
  exact ((NoneOf.zero _ _).next (by decide) (fits_n (by show ((4 : Nat) : Int) ≠ _; decide))).found (by decide) (fits_told [97, 98])
set_option maxRecDepth 10000 in
theorem t_make : makeP tD (signP tB 4) 4 = [⟨0, 0, [120]⟩, ⟨0, 2, []⟩] := by
  have h1 := (Leads.start (data := tD) (l := signP tB 4) (size := 4)).next (by decide) (by decide) (step_none_new t_none (fun o ho => by cases ho))
  have h2 := h1.next (by decide) (by decide) (step_some_new t_first (fun o ho => by
    simp at ho
    subst ho
    simp))
  have h2' : Leads tD (signP tB 4) 4 5 ([⟨0, 0, [120]⟩] ++ [⟨0, 1, []⟩]) := h2
  have h3 := h2'.next (by decide) (by decide) (step_some_last (init := [⟨0, 0, [120]⟩]) (o := ⟨0, 1, []⟩) t_second (by decide) (by decide))
  have h3' : Leads tD (signP tB 4) 4 7 [⟨0, 0, [120]⟩, ⟨0, 2, []⟩] := h3
  exact h3'.done (by decide)
theorem t_apply : applyP tB 4 [⟨0, 0, [120]⟩, ⟨0, 2, []⟩] [] = (tD, 0) := by decide
end Go.Proofs.Ytgohhhfnffhgmaa.Plain
