/- Plain laws of messages over a line: what is read is a beginning of what was sent. -/
import Derived.Test.YtpkdnhkmoojplaaPlain15b
namespace Go.Proofs.Ytpkdnhkmoojplaa.Plain

theorem xor_ne {a d : Nat} (hd : d ≠ 0) : a ^^^ d ≠ a := by
  intro h
  have h2 : a ^^^ d = a ^^^ 0 := by rw [h, Nat.xor_zero]
  exact hd (xor_cancel h2)
theorem carry_length (s : List UInt8) (cut flip : Int) (d : Nat) : (carry s cut flip d).length = if cut < 0 then s.length else min cut.toNat s.length := by
  unfold carry
  by_cases h : cut < 0
  · rw [if_pos h, if_pos h]; split
    · rfl
    · exact turnAt_length _ _ _
  · rw [if_neg h, if_neg h, List.length_take]; split
    · rfl
    · rw [turnAt_length]
theorem turnAt_get (s : List UInt8) (f d i : Nat) : (turnAt s f d)[i]? = if i = f then s[i]?.map (fun c => UInt8.ofNat (c.toNat ^^^ d)) else s[i]? := by
  by_cases h : f < s.length
  · rw [turnAt_in h, List.getElem?_set]
    by_cases hi : f = i
    · subst hi; rw [if_pos rfl, if_pos h, if_pos rfl, List.getElem?_eq_getElem h]; rfl
    · rw [if_neg hi, if_neg (fun e => hi e.symm)]
  · rw [turnAt_out (by omega)]
    split
    · rename_i hi; subst hi; rw [List.getElem?_eq_none (by omega)]; rfl
    · rfl
theorem carry_get {s : List UInt8} {cut flip : Int} {d i : Nat} (h : i < (carry s cut flip d).length) :
    (carry s cut flip d)[i]? = if (i : Int) = flip then s[i]?.map (fun c => UInt8.ofNat (c.toNat ^^^ d)) else s[i]? := by
  rw [carry_length] at h
  unfold carry
  have hm : (if flip < 0 then s else turnAt s flip.toNat d)[i]? = if (i : Int) = flip then s[i]?.map (fun c => UInt8.ofNat (c.toNat ^^^ d)) else s[i]? := by
    split
    · rw [if_neg (by omega)]
    · rw [turnAt_get]
      by_cases hi : (i : Int) = flip
      · rw [if_pos (by omega), if_pos hi]
      · rw [if_neg (by omega), if_neg hi]
  by_cases hc : cut < 0
  · rw [if_pos hc]; exact hm
  · rw [if_neg hc] at h ⊢
    rw [List.getElem?_take_of_lt (by omega)]; exact hm
theorem ofNat_xor_zero (c : UInt8) : UInt8.ofNat (c.toNat ^^^ 0) = c := by rw [Nat.xor_zero]; exact UInt8.ofNat_toNat
theorem ofNat_xor_ne {c : UInt8} {d : Nat} (hd : d < 256) (h0 : d ≠ 0) : UInt8.ofNat (c.toNat ^^^ d) ≠ c := by
  intro h
  have hc := c.toNat_lt
  have h1 := congrArg UInt8.toNat h
  rw [UInt8.toNat_ofNat', Nat.mod_eq_of_lt (Nat.xor_lt_two_pow (n := 8) hc hd)] at h1
  exact xor_ne h0 h1
/-- a text of which nothing is cut, and no byte is made another one -/
theorem carry_whole {s : List UInt8} {cut flip : Int} {d : Nat} (hc : cut < 0 ∨ (s.length : Int) ≤ cut) (hf : d = 0 ∨ flip < 0 ∨ (s.length : Int) ≤ flip) : carry s cut flip d = s := by
  have hl : (carry s cut flip d).length = s.length := by rw [carry_length]; split <;> omega
  apply List.ext_getElem?
  intro i
  by_cases hi : i < s.length
  · rw [carry_get (by omega)]
    split
    · rcases hf with rfl | hf | hf
      · rw [List.getElem?_eq_getElem hi]; simp
      · omega
      · omega
    · rfl
  · rw [List.getElem?_eq_none (by omega), List.getElem?_eq_none (by omega)]
/-- a beginning that isn't touched -/
theorem carry_behind {a b : List UInt8} {cut flip : Int} {d : Nat} (hc : cut < 0 ∨ (a.length : Int) ≤ cut) (hf : d = 0 ∨ flip < 0 ∨ (a.length : Int) ≤ flip) :
    carry (a ++ b) cut flip d = a ++ carry b (if cut < 0 then -1 else cut - a.length) (if flip < a.length then -1 else flip - a.length) d := by
  have l1 := carry_length (a ++ b) cut flip d
  have l2 := carry_length b (if cut < 0 then -1 else cut - a.length) (if flip < a.length then -1 else flip - a.length) d
  rw [List.length_append] at l1
  have hl : (carry (a ++ b) cut flip d).length = (a ++ carry b (if cut < 0 then -1 else cut - a.length) (if flip < a.length then -1 else flip - a.length) d).length := by
    rw [List.length_append, l1, l2]
    by_cases h : cut < 0
    · rw [if_pos h, if_pos h, if_pos (by omega)]
    · rw [if_neg h, if_neg h, if_neg (by omega)]; omega
  apply List.ext_getElem?
  intro i
  by_cases hi : i < (carry (a ++ b) cut flip d).length
  · rw [carry_get hi]
    by_cases hia : i < a.length
    · rw [List.getElem?_append_left hia, List.getElem?_append_left hia]
      split
      · rcases hf with rfl | hf | hf
        · rw [List.getElem?_eq_getElem hia]; simp
        · omega
        · omega
      · rfl
    · rw [List.getElem?_append_right (by omega), List.getElem?_append_right (by omega), carry_get (by rw [hl, List.length_append] at hi; omega)]
      by_cases hif : (i : Int) = flip
      · rw [if_pos hif, if_pos (by rw [if_neg (by omega)]; omega)]
      · rw [if_neg hif, if_neg (by split <;> omega)]
  · rw [List.getElem?_eq_none (by omega), List.getElem?_eq_none (by omega)]

theorem read_frames : ∀ (l : List (List UInt8)) (k : Nat) (r : List UInt8), (∀ p ∈ l, p.length ≤ 1048576) → readL k (frames k l ++ r) = (l ++ (readL (k + l.length) r).1, (readL (k + l.length) r).2)
  | [], k, r, _ => by simp [frames]
  | p :: l, k, r, h => by
    simp only [frames, List.append_assoc]
    rw [read_some (tf_frame k p _ (h p (by simp))), read_frames l (k + 1) r (fun q hq => h q (by simp [hq])), List.length_cons, show k + 1 + l.length = k + (l.length + 1) by omega]
    rfl
/-- where nothing is told, all of it was frames -/
theorem read_told : ∀ (n k : Nat) (s : List UInt8), s.length ≤ n → ((readL k s).2 = 0 ∧ s = frames k (readL k s).1) ∨ (readL k s).2 = 150 := by
  intro n
  induction n with
  | zero => intro k s h; rw [List.eq_nil_of_length_eq_zero (by omega : s.length = 0), read_nil]; exact .inl ⟨rfl, rfl⟩
  | succ n ih =>
    intro k s h
    by_cases hs : s = []
    · subst hs; rw [read_nil]; exact .inl ⟨rfl, rfl⟩
    cases ht : takeFrame k s with
    | none => rw [read_none hs ht]; exact .inr rfl
    | some x =>
      obtain ⟨p, r⟩ := x
      have hl := tf_len ht
      rw [read_some ht]
      rcases ih (k + 1) r (by omega) with ⟨h1, h2⟩ | h1
      · refine .inl ⟨h1, ?_⟩
        simp only [frames]
        rw [← h2]
        exact (frame_of_tf ht).1
      · exact .inr h1

theorem read_prefix : ∀ (l : List (List UInt8)) (k : Nat) (cut flip : Int) (d : Nat), d < 256 → (∀ p ∈ l, p.length ≤ 1048576) → ∃ j, j ≤ l.length ∧ (readL k (carry (frames k l) cut flip d)).1 = l.take j
  | [], k, cut, flip, d, _, _ => ⟨0, by simp, by
    have : carry (frames k []) cut flip d = [] := List.eq_nil_of_length_eq_zero (by rw [carry_length]; simp [frames])
    rw [this, read_nil]; rfl⟩
  | p :: l, k, cut, flip, d, hd, hall => by
    have hp := hall p (by simp)
    simp only [frames]
    have hL : ((frame k p).length : Int) = 12 + (p.length : Int) := by rw [frame_length]; omega
    by_cases hclean : (cut < 0 ∨ (12 + p.length : Int) ≤ cut) ∧ (d = 0 ∨ flip < 0 ∨ (12 + p.length : Int) ≤ flip)
    · rw [carry_behind (by rw [hL]; exact hclean.1) (by rw [hL]; exact hclean.2)]
      obtain ⟨j, hj, he⟩ := read_prefix l (k + 1) (if cut < 0 then -1 else cut - (frame k p).length) (if flip < (frame k p).length then -1 else flip - (frame k p).length) d hd (fun q hq => hall q (by simp [hq]))
      rw [read_some (tf_frame k p _ hp)]
      exact ⟨j + 1, by simp; omega, by simp only [List.take_succ_cons, he]⟩
    · refine ⟨0, by omega, ?_⟩
      have hl := carry_length (frame k p ++ frames (k + 1) l) cut flip d
      rw [List.length_append, frame_length] at hl
      have hno : takeFrame k (carry (frame k p ++ frames (k + 1) l) cut flip d) = none := by
        apply tf_bad (p := p) (f := flip.toNat) hp
        · intro i hi hip hne
          by_cases hif : (i : Int) = flip
          · omega
          · rw [carry_get hi, if_neg hif, List.getElem?_append_left (by rw [frame_length]; exact hip)]
        · by_cases hcut : 0 ≤ cut ∧ cut < 12 + p.length
          · left; rw [hl, if_neg (by omega)]; omega
          · right
            have h1 : d ≠ 0 ∧ 0 ≤ flip ∧ flip < 12 + p.length := by omega
            have h2 : 12 + p.length ≤ (carry (frame k p ++ frames (k + 1) l) cut flip d).length := by rw [hl]; split <;> omega
            refine ⟨by omega, ?_⟩
            rw [carry_get (by omega), if_pos (by omega), List.getElem?_append_left (by rw [frame_length]; omega), List.getElem?_eq_getElem (by rw [frame_length]; omega)]
            simp only [Option.map_some, ne_eq, Option.some.injEq]
            exact ofNat_xor_ne hd h1.1
      by_cases hnil : carry (frame k p ++ frames (k + 1) l) cut flip d = []
      · rw [hnil, read_nil]; rfl
      · rw [read_none hnil hno]; rfl

theorem frames_grows {l : List (List UInt8)} {j : Nat} (h : (frames 0 (l.take j)).length = (frames 0 l).length) : l.take j = l := by
  rcases Nat.lt_or_ge j l.length with h1 | h1
  · exfalso
    have h2 := frames_le (l := l) (k := j + 1)
    rw [frames_take h1, List.length_append, frame_length] at h2
    omega
  · exact List.take_of_length_le h1

/-- nothing is told, but not all of it came as it went: it was cut between two frames, ahead of the byte that was turned -/
theorem told_nothing {l : List (List UInt8)} {cut flip : Int} {d : Nat} (hd : d < 256) (hall : ∀ p ∈ l, p.length ≤ 1048576)
    (hw : ¬((cut < 0 ∨ ((frames 0 l).length : Int) ≤ cut) ∧ (d = 0 ∨ flip < 0 ∨ ((frames 0 l).length : Int) ≤ flip))) (h0 : (readL 0 (carry (frames 0 l) cut flip d)).2 = 0) :
    cut = (frames 0 (readL 0 (carry (frames 0 l) cut flip d)).1).length ∧ (d = 0 ∨ flip < 0 ∨ cut ≤ flip) := by
  obtain ⟨j, hj, he⟩ := read_prefix l 0 cut flip d hd hall
  rcases read_told _ 0 (carry (frames 0 l) cut flip d) (Nat.le_refl _) with ⟨_, h1⟩ | h1
  · have hl := carry_length (frames 0 l) cut flip d
    rw [he] at h1 ⊢
    have hl2 := congrArg List.length h1
    have hs : frames 0 l = frames 0 (l.take j) ++ frames (0 + (l.take j).length) (l.drop j) := by rw [← frames_append, List.take_append_drop]
    by_cases hc : 0 ≤ cut ∧ cut < (frames 0 l).length
    · rw [if_neg (by omega)] at hl
      refine ⟨by omega, ?_⟩
      by_cases hf : d = 0 ∨ flip < 0 ∨ cut ≤ flip
      · exact hf
      · exfalso
        have h2 := carry_get (s := frames 0 l) (cut := cut) (flip := flip) (d := d) (i := flip.toNat) (by omega)
        rw [if_pos (by omega), h1, hs, List.getElem?_append_left (by omega), List.getElem?_eq_getElem (by omega)] at h2
        simp only [Option.map_some, Option.some.injEq] at h2
        exact ofNat_xor_ne hd (by omega) h2.symm
    · exfalso
      have h3 : (carry (frames 0 l) cut flip d).length = (frames 0 l).length := by rw [hl]; split <;> omega
      rw [frames_grows (by omega)] at h1
      have hf : d ≠ 0 ∧ 0 ≤ flip ∧ flip < (frames 0 l).length := by omega
      have h2 := carry_get (s := frames 0 l) (cut := cut) (flip := flip) (d := d) (i := flip.toNat) (by omega)
      rw [if_pos (by omega), h1, List.getElem?_eq_getElem (by omega)] at h2
      simp only [Option.map_some, Option.some.injEq] at h2
      exact ofNat_xor_ne hd hf.1 h2.symm
  · omega

/-- a message more -/
theorem read_more {l : List (List UInt8)} {p : List UInt8} (hall : ∀ p ∈ l, p.length ≤ 1048576) (hp : p.length ≤ 1048576) : readL 0 (frames 0 l ++ frame l.length p) = (l ++ [p], 0) := by
  rw [read_frames l 0 _ hall, Nat.zero_add]
  have := tf_frame l.length p [] hp
  rw [List.append_nil] at this
  rw [read_some this, read_nil]
/-- of another number -/
theorem read_turn {l : List (List UInt8)} {p : List UInt8} {n : Nat} (hall : ∀ p ∈ l, p.length ≤ 1048576) (hp : p.length ≤ 1048576) (hn : n < 4294967296) (hl : l.length < 4294967296) (hne : n ≠ l.length) :
    readL 0 (frames 0 l ++ frame n p) = (l, 150) := by
  rw [read_frames l 0 _ hall, Nat.zero_add]
  have hno : takeFrame l.length (frame n p) = none := by
    cases ht : takeFrame l.length (frame n p) with
    | none => rfl
    | some x =>
      exfalso
      obtain ⟨q, r⟩ := x
      obtain ⟨h1, hq⟩ := frame_of_tf ht
      have n1 := num_frame n p [] hp
      have n2 := num_frame l.length q r hq
      rw [List.append_nil, h1] at n1
      have d1 := frame_drop12 n p []
      have d2 := frame_drop12 l.length q r
      rw [List.append_nil, List.append_nil, h1, d2] at d1
      have hr : r.length = 0 := by have := congrArg List.length d1; rw [List.length_append] at this; omega
      rw [List.eq_nil_of_length_eq_zero hr, List.append_nil] at d1
      subst d1
      have s1 := frame_drop8 n q []
      have s2 := frame_drop8 l.length q r
      rw [List.append_nil, h1, s2] at s1
      have s3 := congrArg num s1
      rw [num_four _ (crc_lt _), num_four _ (crc_lt _)] at s3
      exact hne (crc_number hl hn _ s3).symm
  rw [read_none (by intro h; have := congrArg List.length h; rw [frame_length] at this; simp at this) hno]
  simp
theorem frames_weight (l : List (List UInt8)) : ∀ k, (frames k l).length ≤ 12 * (l.map fun s => s.length + 1).sum := by
  induction l with
  | nil => intro k; simp [frames]
  | cons p l ih => intro k; have := ih (k + 1); simp only [frames, List.length_append, frame_length, List.map_cons, List.sum_cons]; omega
end Go.Proofs.Ytpkdnhkmoojplaa.Plain
