/- Plain laws of the reading of a rune. -/
import Derived.Lib.ValidLaws
set_option linter.unusedVariables false
set_option linter.unusedSimpArgs false
namespace Go.Proofs.YtgppfcaghjbjmaaDoor.Plain
open Go.Lib

/-- how many bytes the rune has at which a text begins; 0: none -/
def runeW (l : List UInt8) : Nat := if (decodeL l).1 = 65533 ∧ (decodeL l).2 = 1 then 0 else (decodeL l).2
def runeN (m b0 b1 b2 b3 : Nat) : Nat := if (decodeN m b0 b1 b2 b3).1 = 65533 ∧ (decodeN m b0 b1 b2 b3).2 = 1 then 0 else (decodeN m b0 b1 b2 b3).2
theorem runeW_N (l : List UInt8) (k : Nat) : runeW (l.drop k) = runeN (l.length - k) (l.getD k 0).toNat (l.getD (k + 1) 0).toNat (l.getD (k + 2) 0).toNat (l.getD (k + 3) 0).toNat := by
  have e : decodeL (l.drop k) = decodeN (l.length - k) (l.getD k 0).toNat (l.getD (k + 1) 0).toNat (l.getD (k + 2) 0).toNat (l.getD (k + 3) 0).toNat := by
    rw [decodeL_N]
    simp [List.getD, List.getElem?_drop]
  unfold runeW runeN
  rw [e]
def vAt (l : List UInt8) (k v0 : Nat) : Nat → Nat
  | 0 => v0
  | 1 => v0
  | i + 2 => vAt l k v0 (i + 1) * 64 + ((l.getD (k + (i + 1)) 0).toNat - 128)
theorem vAt_one (l : List UInt8) (k v0 : Nat) : vAt l k v0 1 = v0 := rfl
theorem vAt_succ (l : List UInt8) (k v0 i : Nat) (h : 1 ≤ i) : vAt l k v0 (i + 1) = vAt l k v0 i * 64 + ((l.getD (k + i) 0).toNat - 128) := by
  obtain ⟨j, rfl⟩ : ∃ j, i = j + 1 := ⟨i - 1, by omega⟩
  rfl
theorem vAt_le (l : List UInt8) (k v0 : Nat) (h : v0 ≤ 31) : ∀ i, 1 ≤ i → i ≤ 4 → vAt l k v0 i ≤ 16777215 := by
  intro i h1 h2
  have b : ∀ j, (l.getD (k + j) 0).toNat < 256 := fun j => (l.getD (k + j) 0).toNat_lt
  have b1 := b 1
  have b2 := b 2
  have b3 := b 3
  have e2 : vAt l k v0 2 = _ := vAt_succ l k v0 1 (by omega)
  have e3 : vAt l k v0 3 = _ := vAt_succ l k v0 2 (by omega)
  have e4 : vAt l k v0 4 = _ := vAt_succ l k v0 3 (by omega)
  rw [vAt_one] at e2
  have : i = 1 ∨ i = 2 ∨ i = 3 ∨ i = 4 := by omega
  rcases this with rfl | rfl | rfl | rfl
  · rw [vAt_one]; omega
  · omega
  · omega
  · omega
def finW (n low v : Nat) : Nat := if v < low ∨ 1114111 < v ∨ (55296 ≤ v ∧ v ≤ 57343) then 0 else n

theorem runeW_asc (l : List UInt8) (k : Nat) (h : (l.getD k 0).toNat < 128) : runeW (l.drop k) = 1 := by
  rw [runeW_N]; unfold runeN decodeN; rw [if_pos h, if_neg (fun e => by have := e.1; simp only at this; omega)]
theorem runeW_bad (l : List UInt8) (k : Nat) (h : (128 ≤ (l.getD k 0).toNat ∧ (l.getD k 0).toNat < 194) ∨ 245 ≤ (l.getD k 0).toNat) : runeW (l.drop k) = 0 := by
  have := (l.getD k 0).toNat_lt
  rw [runeW_N]; unfold runeN; rw [decodeN_bad _ _ _ _ _ (by omega)]; rfl

set_option maxHeartbeats 1000000 in
theorem runeN_2 (m b0 b1 b2 b3 : Nat) (hlo : 194 ≤ b0) (hhi : b0 ≤ 223) (h1 : b1 < 256) (h2 : b2 < 256) (h3 : b3 < 256) :
    (m < 2 → 0 < m → runeN m b0 b1 b2 b3 = 0) ∧ (¬ m < 2 → ¬ (128 ≤ b1 ∧ b1 ≤ 191) → runeN m b0 b1 b2 b3 = 0) ∧ (¬ m < 2 → (128 ≤ b1 ∧ b1 ≤ 191) → runeN m b0 b1 b2 b3 = finW 2 128 ((b0 - 192) * 64 + (b1 - 128))) := by
  refine ⟨?_, ?_, ?_⟩
  all_goals
    intros
    unfold runeN
    try unfold finW
    generalize hd : decodeN m b0 b1 b2 b3 = d
    unfold decodeN at hd
    repeat' split at hd
    all_goals subst hd
    all_goals simp only [true_and, and_true, reduceIte]
    all_goals (repeat' split)
    all_goals first | rfl | omega

theorem runeW_2 (l : List UInt8) (k : Nat) (hk : k < l.length) (hlo : 194 ≤ (l[k]).toNat) (hhi : (l[k]).toNat ≤ 223) :
    (l.length < k + 2 → runeW (l.drop k) = 0) ∧ (∀ i, 1 ≤ i → i < 2 → ¬ l.length < k + 2 → ¬ (128 ≤ (l.getD (k + i) 0).toNat ∧ (l.getD (k + i) 0).toNat ≤ 191) → runeW (l.drop k) = 0) ∧
      (¬ l.length < k + 2 → (∀ j, 1 ≤ j → j < 2 → 128 ≤ (l.getD (k + j) 0).toNat ∧ (l.getD (k + j) 0).toNat ≤ 191) → runeW (l.drop k) = finW 2 128 (vAt l k ((l[k]).toNat - 192) 2)) := by
  have hg : l.getD k 0 = l[k] := by simp [List.getD, hk]
  have h := runeN_2 (l.length - k) (l.getD k 0).toNat (l.getD (k + 1) 0).toNat (l.getD (k + 2) 0).toNat (l.getD (k + 3) 0).toNat (by rw [hg]; exact hlo) (by rw [hg]; exact hhi) (UInt8.toNat_lt _) (UInt8.toNat_lt _) (UInt8.toNat_lt _)
  rw [← runeW_N, hg] at h
  refine ⟨fun hl => h.1 (by omega) (by omega), fun i h1 h2 hl hc => ?_, fun hl hc => ?_⟩
  · obtain rfl : i = 1 := by omega
    exact h.2.1 (by omega) hc
  · exact h.2.2 (by omega) (hc 1 (by omega) (by omega))

set_option maxHeartbeats 1000000 in
theorem runeN_3 (m b0 b1 b2 b3 : Nat) (hlo : 224 ≤ b0) (hhi : b0 ≤ 239) (h1 : b1 < 256) (h2 : b2 < 256) (h3 : b3 < 256) :
    (m < 3 → 0 < m → runeN m b0 b1 b2 b3 = 0) ∧ (¬ m < 3 → ¬ (128 ≤ b1 ∧ b1 ≤ 191) → runeN m b0 b1 b2 b3 = 0) ∧ (¬ m < 3 → ¬ (128 ≤ b2 ∧ b2 ≤ 191) → runeN m b0 b1 b2 b3 = 0) ∧ (¬ m < 3 → (128 ≤ b1 ∧ b1 ≤ 191) → (128 ≤ b2 ∧ b2 ≤ 191) → runeN m b0 b1 b2 b3 = finW 3 2048 (((b0 - 224) * 64 + (b1 - 128)) * 64 + (b2 - 128))) := by
  refine ⟨?_, ?_, ?_, ?_⟩
  all_goals
    intros
    unfold runeN
    try unfold finW
    generalize hd : decodeN m b0 b1 b2 b3 = d
    unfold decodeN at hd
    repeat' split at hd
    all_goals subst hd
    all_goals simp only [true_and, and_true, reduceIte]
    all_goals (repeat' split)
    all_goals first | rfl | omega

theorem runeW_3 (l : List UInt8) (k : Nat) (hk : k < l.length) (hlo : 224 ≤ (l[k]).toNat) (hhi : (l[k]).toNat ≤ 239) :
    (l.length < k + 3 → runeW (l.drop k) = 0) ∧ (∀ i, 1 ≤ i → i < 3 → ¬ l.length < k + 3 → ¬ (128 ≤ (l.getD (k + i) 0).toNat ∧ (l.getD (k + i) 0).toNat ≤ 191) → runeW (l.drop k) = 0) ∧
      (¬ l.length < k + 3 → (∀ j, 1 ≤ j → j < 3 → 128 ≤ (l.getD (k + j) 0).toNat ∧ (l.getD (k + j) 0).toNat ≤ 191) → runeW (l.drop k) = finW 3 2048 (vAt l k ((l[k]).toNat - 224) 3)) := by
  have hg : l.getD k 0 = l[k] := by simp [List.getD, hk]
  have h := runeN_3 (l.length - k) (l.getD k 0).toNat (l.getD (k + 1) 0).toNat (l.getD (k + 2) 0).toNat (l.getD (k + 3) 0).toNat (by rw [hg]; exact hlo) (by rw [hg]; exact hhi) (UInt8.toNat_lt _) (UInt8.toNat_lt _) (UInt8.toNat_lt _)
  rw [← runeW_N, hg] at h
  refine ⟨fun hl => h.1 (by omega) (by omega), fun i h1 h2 hl hc => ?_, fun hl hc => ?_⟩
  · have : i = 1 ∨ i = 2 := by omega
    rcases this with rfl | rfl
    · exact h.2.1 (by omega) hc
    · exact h.2.2.1 (by omega) hc
  · exact h.2.2.2 (by omega) (hc 1 (by omega) (by omega)) (hc 2 (by omega) (by omega))

set_option maxHeartbeats 1000000 in
theorem runeN_4 (m b0 b1 b2 b3 : Nat) (hlo : 240 ≤ b0) (hhi : b0 ≤ 244) (h1 : b1 < 256) (h2 : b2 < 256) (h3 : b3 < 256) :
    (m < 4 → 0 < m → runeN m b0 b1 b2 b3 = 0) ∧ (¬ m < 4 → ¬ (128 ≤ b1 ∧ b1 ≤ 191) → runeN m b0 b1 b2 b3 = 0) ∧ (¬ m < 4 → ¬ (128 ≤ b2 ∧ b2 ≤ 191) → runeN m b0 b1 b2 b3 = 0) ∧ (¬ m < 4 → ¬ (128 ≤ b3 ∧ b3 ≤ 191) → runeN m b0 b1 b2 b3 = 0) ∧ (¬ m < 4 → (128 ≤ b1 ∧ b1 ≤ 191) → (128 ≤ b2 ∧ b2 ≤ 191) → (128 ≤ b3 ∧ b3 ≤ 191) → runeN m b0 b1 b2 b3 = finW 4 65536 ((((b0 - 240) * 64 + (b1 - 128)) * 64 + (b2 - 128)) * 64 + (b3 - 128))) := by
  refine ⟨?_, ?_, ?_, ?_, ?_⟩
  all_goals
    intros
    unfold runeN
    try unfold finW
    generalize hd : decodeN m b0 b1 b2 b3 = d
    unfold decodeN at hd
    repeat' split at hd
    all_goals subst hd
    all_goals simp only [true_and, and_true, reduceIte]
    all_goals (repeat' split)
    all_goals first | rfl | omega

theorem runeW_4 (l : List UInt8) (k : Nat) (hk : k < l.length) (hlo : 240 ≤ (l[k]).toNat) (hhi : (l[k]).toNat ≤ 244) :
    (l.length < k + 4 → runeW (l.drop k) = 0) ∧ (∀ i, 1 ≤ i → i < 4 → ¬ l.length < k + 4 → ¬ (128 ≤ (l.getD (k + i) 0).toNat ∧ (l.getD (k + i) 0).toNat ≤ 191) → runeW (l.drop k) = 0) ∧
      (¬ l.length < k + 4 → (∀ j, 1 ≤ j → j < 4 → 128 ≤ (l.getD (k + j) 0).toNat ∧ (l.getD (k + j) 0).toNat ≤ 191) → runeW (l.drop k) = finW 4 65536 (vAt l k ((l[k]).toNat - 240) 4)) := by
  have hg : l.getD k 0 = l[k] := by simp [List.getD, hk]
  have h := runeN_4 (l.length - k) (l.getD k 0).toNat (l.getD (k + 1) 0).toNat (l.getD (k + 2) 0).toNat (l.getD (k + 3) 0).toNat (by rw [hg]; exact hlo) (by rw [hg]; exact hhi) (UInt8.toNat_lt _) (UInt8.toNat_lt _) (UInt8.toNat_lt _)
  rw [← runeW_N, hg] at h
  refine ⟨fun hl => h.1 (by omega) (by omega), fun i h1 h2 hl hc => ?_, fun hl hc => ?_⟩
  · have : i = 1 ∨ i = 2 ∨ i = 3 := by omega
    rcases this with rfl | rfl | rfl
    · exact h.2.1 (by omega) hc
    · exact h.2.2.1 (by omega) hc
    · exact h.2.2.2.1 (by omega) hc
  · exact h.2.2.2.2 (by omega) (hc 1 (by omega) (by omega)) (hc 2 (by omega) (by omega)) (hc 3 (by omega) (by omega))

/-- valid: rune by rune -/
theorem validD_rune (l : List UInt8) (k : Nat) (hk : k < l.length) : validD (l.drop k) = if runeW (l.drop k) = 0 then false else validD (l.drop (k + runeW (l.drop k))) := by
  have hne : l.drop k ≠ [] := by intro e; have := congrArg List.length e; simp at this; omega
  have hw := decodeL_width (l.drop k)
  have hpos : 0 < (l.drop k).length := by simp; omega
  rw [validD_step _ hne]
  unfold runeW
  split
  · simp
  · rw [if_neg (by omega), List.drop_drop]
set_option maxHeartbeats 1000000 in
theorem runeN_le (m b0 b1 b2 b3 : Nat) (hm : 0 < m) : runeN m b0 b1 b2 b3 ≤ m := by
  unfold runeN
  generalize hd : decodeN m b0 b1 b2 b3 = d
  unfold decodeN at hd
  repeat' split at hd
  all_goals subst hd
  all_goals simp only [true_and, and_true]
  all_goals (repeat' split)
  all_goals omega
theorem runeW_le (l : List UInt8) (k : Nat) (hk : k < l.length) : runeW (l.drop k) ≤ l.length - k := by
  rw [runeW_N]; exact runeN_le _ _ _ _ _ (by omega)
/-- a rune from 128 on, where a text is ranged over -/
theorem dec_hi (l : List UInt8) (i : Nat) (hi : i < l.length) (h : 128 ≤ (l.getD i 0).toNat) :
    128 ≤ (Utf8.decode ⟨l.toArray⟩ i).1 ∧ (Utf8.decode ⟨l.toArray⟩ i).1 ≤ 1114111 ∧ Utf8.valid ((Utf8.decode ⟨l.toArray⟩ i).1 : Int) = true ∧ 1 ≤ (Utf8.decode ⟨l.toArray⟩ i).2 ∧ i + (Utf8.decode ⟨l.toArray⟩ i).2 ≤ l.length ∧
      ∀ j, i ≤ j → j < i + (Utf8.decode ⟨l.toArray⟩ i).2 → 128 ≤ (l.getD j 0).toNat := by
  rw [decode_N]
  simp only [List.toList_toArray]
  have k0 := (l.getD i 0).toNat_lt
  have k1 := (l.getD (i + 1) 0).toNat_lt
  have k2 := (l.getD (i + 2) 0).toNat_lt
  have k3 := (l.getD (i + 3) 0).toNat_lt
  have hj : ∀ (k : Nat), (∀ m, m < k → 128 ≤ (l.getD (i + m) 0).toNat) → ∀ j, i ≤ j → j < i + k → 128 ≤ (l.getD j 0).toNat := fun k hk j h1 h2 => by
    have := hk (j - i) (by omega)
    rwa [show i + (j - i) = j by omega] at this
  generalize hx0 : l.getD i 0 = x0 at *
  generalize hx1 : l.getD (i + 1) 0 = x1 at *
  generalize hx2 : l.getD (i + 2) 0 = x2 at *
  generalize hx3 : l.getD (i + 3) 0 = x3 at *
  unfold Utf8.valid
  rcases decodeN_shape (l.length - i) x0.toNat x1.toNat x2.toNat x3.toNat with ⟨c, e⟩ | ⟨c1, c2, c3, cv, e⟩ | ⟨c1, c2, c3, c4, cv, cs, e⟩ | ⟨c1, c2, c3, c4, c5, cv, cw, e⟩ | e
  · omega
  · rw [e]
    refine ⟨by simp only; omega, by simp only; omega, by simp; omega, by simp, by simp only; omega, hj _ (fun m hm => ?_)⟩
    have : m = 0 ∨ m = 1 := by simp only at hm; omega
    rcases this with rfl | rfl
    · rw [Nat.add_zero, hx0]; omega
    · rw [hx1]; omega
  · rw [e]
    refine ⟨by simp only; omega, by simp only; omega, by simp; omega, by simp, by simp only; omega, hj _ (fun m hm => ?_)⟩
    have : m = 0 ∨ m = 1 ∨ m = 2 := by simp only at hm; omega
    rcases this with rfl | rfl | rfl
    · rw [Nat.add_zero, hx0]; omega
    · rw [hx1]; omega
    · rw [hx2]; omega
  · rw [e]
    refine ⟨by simp only; omega, by simp only; omega, by simp; omega, by simp, by simp only; omega, hj _ (fun m hm => ?_)⟩
    have : m = 0 ∨ m = 1 ∨ m = 2 ∨ m = 3 := by simp only at hm; omega
    rcases this with rfl | rfl | rfl | rfl
    · rw [Nat.add_zero, hx0]; omega
    · rw [hx1]; omega
    · rw [hx2]; omega
    · rw [hx3]; omega
  · rw [e]
    refine ⟨by simp, by simp, by simp, by simp, by simp only; omega, hj _ (fun m hm => ?_)⟩
    obtain rfl : m = 0 := by simp only at hm; omega
    rw [Nat.add_zero, hx0]; omega
theorem dec_lo (l : List UInt8) (i : Nat) (h : (l.getD i 0).toNat < 128) : Utf8.decode ⟨l.toArray⟩ i = ((l.getD i 0).toNat, 1) := by
  rw [decode_N]; simp only [List.toList_toArray]; exact decodeN_ascii _ _ _ _ _ h
end Go.Proofs.YtgppfcaghjbjmaaDoor.Plain
