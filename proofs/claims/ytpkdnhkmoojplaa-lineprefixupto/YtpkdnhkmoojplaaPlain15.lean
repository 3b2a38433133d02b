/- Plain laws of messages over a line: no program in sight. -/
import Derived.Test.YtpkdnhkmoojplaaPlain05b
namespace Go.Proofs.Ytpkdnhkmoojplaa.Plain

/-- a message's frame -/
def frame (n : Nat) (p : List UInt8) : List UInt8 := four p.length ++ (four (crc (four p.length)) ++ (four (crc (four n ++ p)) ++ p))
theorem frame_length (n : Nat) (p : List UInt8) : (frame n p).length = 12 + p.length := by simp [frame, four_length]; omega
/-- frames, the first of number k -/
def frames : Nat → List (List UInt8) → List UInt8
  | _, [] => []
  | k, p :: l => frame k p ++ frames (k + 1) l
def packL (l : List (List UInt8)) : List UInt8 × Nat := if l.all (fun p => decide (p.length ≤ 1048576)) then (frames 0 l, 0) else ([], 32)
theorem packL_ok {l : List (List UInt8)} (h : ∀ p ∈ l, p.length ≤ 1048576) : packL l = (frames 0 l, 0) := if_pos (by simpa using h)
theorem packL_bad {l : List (List UInt8)} {p : List UInt8} (hp : p ∈ l) (h : 1048576 < p.length) : packL l = ([], 32) := if_neg (by simp; exact ⟨p, hp, h⟩)
theorem frames_append : ∀ (l m : List (List UInt8)) (k : Nat), frames k (l ++ m) = frames k l ++ frames (k + l.length) m
  | [], m, k => by simp [frames]
  | p :: l, m, k => by simp only [List.cons_append, frames, frames_append l m (k + 1), List.append_assoc, List.length_cons]; rw [show k + 1 + l.length = k + (l.length + 1) by omega]
theorem frames_take {l : List (List UInt8)} {k : Nat} (h : k < l.length) : frames 0 (l.take (k + 1)) = frames 0 (l.take k) ++ frame k l[k] := by
  rw [List.take_succ_eq_append_getElem h, frames_append]
  simp [frames, Nat.min_eq_left (Nat.le_of_lt h)]
theorem frames_le {l : List (List UInt8)} {k : Nat} : (frames 0 (l.take k)).length ≤ (frames 0 l).length := by
  conv => rhs; rw [← List.take_append_drop k l, frames_append, List.length_append]
  omega

/-- a byte turned -/
def turnAt (s : List UInt8) (f : Nat) (d : Nat) : List UInt8 := match s[f]? with | some c => s.set f (UInt8.ofNat (c.toNat ^^^ d)) | none => s
/-- what comes at the other end -/
def carry (s : List UInt8) (cut flip : Int) (d : Nat) : List UInt8 :=
  (if cut < 0 then id else List.take cut.toNat) (if flip < 0 then s else turnAt s flip.toNat d)
theorem turnAt_length (s : List UInt8) (f d : Nat) : (turnAt s f d).length = s.length := by unfold turnAt; split <;> simp
theorem turnAt_in {s : List UInt8} {f : Nat} (h : f < s.length) (d : Nat) : turnAt s f d = s.set f (UInt8.ofNat (s[f].toNat ^^^ d)) := by
  unfold turnAt; rw [List.getElem?_eq_getElem h]
theorem turnAt_out {s : List UInt8} {f : Nat} (h : s.length ≤ f) (d : Nat) : turnAt s f d = s := by
  unfold turnAt; rw [List.getElem?_eq_none h]
theorem carry_cut {s m : List UInt8} {cut flip : Int} {d : Nat} (hm : (if flip < 0 then s else turnAt s flip.toNat d) = m) (h : 0 ≤ cut) : carry s cut flip d = m.take cut.toNat := by
  unfold carry; rw [hm, if_neg (by omega)]
theorem carry_all {s m : List UInt8} {cut flip : Int} {d : Nat} (hm : (if flip < 0 then s else turnAt s flip.toNat d) = m) (h : cut < 0) : carry s cut flip d = m := by
  unfold carry; rw [hm, if_pos h]; rfl

/-- the frame of number k with which a text begins: its payload, and what is behind it -/
def takeFrame (k : Nat) (s : List UInt8) : Option (List UInt8 × List UInt8) :=
  if s.length < 12 then none
  else if crc (s.take 4) ≠ num (s.drop 4) then none
  else if 1048576 < num s then none
  else if s.length < 12 + num s then none
  else if crc (four k ++ (s.drop 12).take (num s)) ≠ num (s.drop 8) then none
  else some ((s.drop 12).take (num s), s.drop (12 + num s))

theorem tf_short {k : Nat} {s : List UInt8} (h : s.length < 12) : takeFrame k s = none := by unfold takeFrame; rw [if_pos h]
theorem tf_size {k : Nat} {s : List UInt8} (h : 12 ≤ s.length) (h1 : crc (s.take 4) ≠ num (s.drop 4)) : takeFrame k s = none := by unfold takeFrame; rw [if_neg (by omega), if_pos h1]
theorem tf_big {k : Nat} {s : List UInt8} (h : 12 ≤ s.length) (h1 : crc (s.take 4) = num (s.drop 4)) (h2 : 1048576 < num s) : takeFrame k s = none := by unfold takeFrame; rw [if_neg (by omega), if_neg (by simpa using h1), if_pos h2]
theorem tf_cut {k : Nat} {s : List UInt8} (h : 12 ≤ s.length) (h1 : crc (s.take 4) = num (s.drop 4)) (h2 : num s ≤ 1048576) (h3 : s.length < 12 + num s) : takeFrame k s = none := by
  unfold takeFrame; rw [if_neg (by omega), if_neg (by simpa using h1), if_neg (by omega), if_pos h3]
theorem tf_sum {k : Nat} {s : List UInt8} (h : 12 ≤ s.length) (h1 : crc (s.take 4) = num (s.drop 4)) (h2 : num s ≤ 1048576) (h3 : 12 + num s ≤ s.length) (h4 : crc (four k ++ (s.drop 12).take (num s)) ≠ num (s.drop 8)) : takeFrame k s = none := by
  unfold takeFrame; rw [if_neg (by omega), if_neg (by simpa using h1), if_neg (by omega), if_neg (by omega), if_pos h4]
theorem tf_ok {k : Nat} {s : List UInt8} (h : 12 ≤ s.length) (h1 : crc (s.take 4) = num (s.drop 4)) (h2 : num s ≤ 1048576) (h3 : 12 + num s ≤ s.length) (h4 : crc (four k ++ (s.drop 12).take (num s)) = num (s.drop 8)) :
    takeFrame k s = some ((s.drop 12).take (num s), s.drop (12 + num s)) := by
  unfold takeFrame; rw [if_neg (by omega), if_neg (by simpa using h1), if_neg (by omega), if_neg (by omega), if_neg (by simpa using h4)]

theorem frame_take4 (k : Nat) (p r : List UInt8) : (frame k p ++ r).take 4 = four p.length := by
  unfold frame; rw [List.append_assoc, List.take_append_of_le_length (by simp [four_length])]; exact List.take_of_length_le (by simp [four_length])
theorem frame_drop4 (k : Nat) (p r : List UInt8) : (frame k p ++ r).drop 4 = four (crc (four p.length)) ++ (four (crc (four k ++ p)) ++ (p ++ r)) := by
  unfold frame; rw [List.append_assoc, List.drop_left' (four_length _), List.append_assoc, List.append_assoc]
theorem frame_drop8 (k : Nat) (p r : List UInt8) : (frame k p ++ r).drop 8 = four (crc (four k ++ p)) ++ (p ++ r) := by
  rw [show 8 = 4 + 4 by rfl, ← List.drop_drop, frame_drop4, List.drop_left' (four_length _)]
theorem frame_drop12 (k : Nat) (p r : List UInt8) : (frame k p ++ r).drop 12 = p ++ r := by
  rw [show 12 = 8 + 4 by rfl, ← List.drop_drop, frame_drop8, List.drop_left' (four_length _)]
theorem num_frame (k : Nat) (p r : List UInt8) (hp : p.length ≤ 1048576) : num (frame k p ++ r) = p.length := by
  unfold frame; rw [List.append_assoc, num_four _ (by omega)]
theorem tf_frame (k : Nat) (p r : List UInt8) (hp : p.length ≤ 1048576) : takeFrame k (frame k p ++ r) = some (p, r) := by
  have hl : (frame k p ++ r).length = 12 + p.length + r.length := by rw [List.length_append, frame_length]
  have hn := num_frame k p r hp
  rw [tf_ok (by omega) (by rw [frame_take4, frame_drop4, num_four _ (crc_lt _)]) (by omega) (by omega) ?_, hn]
  · rw [frame_drop12, List.take_left' rfl, ← List.drop_drop, frame_drop12, List.drop_left' rfl]
  · rw [hn, frame_drop12, List.take_left' rfl, frame_drop8, num_four _ (crc_lt _)]
theorem frame_of_tf {k : Nat} {s p r : List UInt8} (h : takeFrame k s = some (p, r)) : s = frame k p ++ r ∧ p.length ≤ 1048576 := by
  unfold takeFrame at h
  split at h
  · cases h
  split at h
  · cases h
  split at h
  · cases h
  split at h
  · cases h
  split at h
  · cases h
  · rename_i h0 h1 h2 h3 h4
    simp only [Option.some.injEq, Prod.mk.injEq] at h
    obtain ⟨rfl, rfl⟩ := h
    have hl : ((s.drop 12).take (num s)).length = num s := by simp; omega
    refine ⟨?_, by omega⟩
    have h1' : crc (s.take 4) = num (s.drop 4) := by simpa using h1
    have h4' : crc (four k ++ (s.drop 12).take (num s)) = num (s.drop 8) := by simpa using h4
    have e0 := four_num (s := s) (by omega)
    have e4 := four_num (s := s.drop 4) (by simp; omega)
    have e8 := four_num (s := s.drop 8) (by simp; omega)
    unfold frame
    rw [hl, h4', e0, h1', e4, e8, List.append_assoc, List.append_assoc, List.append_assoc]
    have : (s.drop 12).take (num s) ++ s.drop (12 + num s) = s.drop 12 := by rw [← List.drop_drop, List.take_append_drop]
    rw [this, show s.drop 12 = (s.drop 8).drop 4 by rw [List.drop_drop], List.take_append_drop, show s.drop 8 = (s.drop 4).drop 4 by rw [List.drop_drop], List.take_append_drop, List.take_append_drop]

/-- the messages that have come, from number k on: n rounds at the most -/
def readN : Nat → Nat → List UInt8 → List (List UInt8) × Nat
  | 0, _, _ => ([], 0)
  | n + 1, k, s => if s = [] then ([], 0) else match takeFrame k s with
    | none => ([], 150)
    | some (p, r) => (p :: (readN n (k + 1) r).1, (readN n (k + 1) r).2)
def readL (k : Nat) (s : List UInt8) : List (List UInt8) × Nat := readN s.length k s
theorem readN_nil (n k : Nat) : readN n k [] = ([], 0) := by cases n <;> simp [readN]
theorem tf_len {k : Nat} {s p r : List UInt8} (h : takeFrame k s = some (p, r)) : s.length = 12 + p.length + r.length := by
  have := frame_of_tf h
  rw [this.1, List.length_append, frame_length]
theorem readN_ge : ∀ (n k : Nat) (s : List UInt8), s.length ≤ n → ∀ m, n ≤ m → readN m k s = readN n k s := by
  intro n
  induction n with
  | zero => intro k s h m _; rw [List.eq_nil_of_length_eq_zero (by omega : s.length = 0), readN_nil, readN_nil]
  | succ n ih =>
    intro k s h m hm
    obtain ⟨m, rfl⟩ : ∃ j, m = j + 1 := ⟨m - 1, by omega⟩
    by_cases hs : s = []
    · subst hs; rw [readN_nil, readN_nil]
    simp only [readN, if_neg hs]
    cases ht : takeFrame k s with
    | none => rfl
    | some x =>
      obtain ⟨p, r⟩ := x
      have := tf_len ht
      simp only
      rw [ih (k + 1) r (by omega) m (by omega)]
theorem read_nil (k : Nat) : readL k [] = ([], 0) := readN_nil _ _
theorem read_none {k : Nat} {s : List UInt8} (hs : s ≠ []) (h : takeFrame k s = none) : readL k s = ([], 150) := by
  unfold readL
  obtain ⟨j, hj⟩ : ∃ j, s.length = j + 1 := ⟨s.length - 1, by have := List.length_pos_iff.2 hs; omega⟩
  rw [hj, readN, if_neg hs, h]
theorem read_some {k : Nat} {s p r : List UInt8} (h : takeFrame k s = some (p, r)) : readL k s = (p :: (readL (k + 1) r).1, (readL (k + 1) r).2) := by
  have hl := tf_len h
  have hs : s ≠ [] := by rintro rfl; simp at hl; omega
  unfold readL
  obtain ⟨j, hj⟩ : ∃ j, s.length = j + 1 := ⟨s.length - 1, by omega⟩
  rw [hj, readN, if_neg hs, h]
  simp only
  rw [readN_ge _ _ r (Nat.le_refl _) j (by omega)]
theorem read_length : ∀ (n k : Nat) (s : List UInt8), s.length ≤ n → 12 * (readL k s).1.length ≤ s.length := by
  intro n
  induction n with
  | zero => intro k s h; rw [List.eq_nil_of_length_eq_zero (by omega : s.length = 0), read_nil]; simp
  | succ n ih =>
    intro k s h
    by_cases hs : s = []
    · subst hs; rw [read_nil]; simp
    cases ht : takeFrame k s with
    | none => rw [read_none hs ht]; simp
    | some x =>
      obtain ⟨p, r⟩ := x
      have := tf_len ht
      have := ih (k + 1) r (by omega)
      rw [read_some ht]; simp; omega

end Go.Proofs.Ytpkdnhkmoojplaa.Plain
