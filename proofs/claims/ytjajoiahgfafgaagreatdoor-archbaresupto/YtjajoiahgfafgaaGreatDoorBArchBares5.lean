/- Texts joined: Valid, PlainRune, AnyIdx, Name, SplitSeq, RangeLaw. -/
import Derived.Test.YtjajoiahgfafgaaGreatDoorBCodeBaseC1
import Derived.Test.YtjajoiahgfafgaaGreatDoorShelf
import Derived.Shelf.Unicode.ValidAny
import Derived.Lib.LaidU8T
import Derived.Lib.ValidLaws
import Derived.Laws.Runes
import Derived.Laws.RangeAny
import Derived.Lib.Builder
import Derived.WalkMore
import Derived.Deep.QuietTactic
import Derived.BigQuiet
import Derived.Lib.IndexAny
import Derived.Lib.OthersKept
import Derived.Test.YtjajoiahgfafgaaGreatDoorBArchBares4
import Derived.RangeFuncNested
import Derived.RangeFuncBound
import Derived.RangeFuncCalls
import Derived.RangeFuncLeaves
import Derived.Shelf.Abstract
import Derived.Shelf.RegionOpen
import Derived.WalkKit
import Derived.OwnWalkIn
import Derived.TacticsInMore
import Derived.LoopNIn
import Derived.LoopIn
import Derived.RangeFuncKeeps
set_option linter.unusedSimpArgs false
set_option linter.unusedVariables false

/- The library's check of UTF-8, laid at this program. -/
section
namespace Go.Proofs.YtjajoiahgfafgaaGreatDoor
open Go.RowKit

def lays196_ren : Go.Shelf.Ren := ⟨fun | 196 => 123 | 259 => 146 | n => n, fun | 9 => 9 | 3 => 3 | 4 => 4 | 5 => 5 | 0 => 0 | 12 => 12 | 46 => 107 | 53 => 110 | 119 => 170 | 139 => 173 | 138 => 172 | n => n, fun | 3 => 1 | 4 => 2 | n => n⟩
theorem lays196 : Go.Proofs.Lays.n196 Tryz.prog lays196_ren := {
  mixed := by kernel_rfl
  f196 := Tryz.func123.trans (congrArg some (by kernel_rfl))
  f259 := Tryz.func146.trans (congrArg some (by kernel_rfl))
  t0 := Tryz.underlying0
  a0 := Tryz.isAgg0
  z0 := Tryz.sizeOf0
  v0 := Tryz.zeroValue0
  t3 := Tryz.underlying3
  a3 := Tryz.isAgg3
  z3 := Tryz.sizeOf3
  v3 := Tryz.zeroValue3
  t4 := Tryz.underlying4
  a4 := Tryz.isAgg4
  z4 := Tryz.sizeOf4
  v4 := Tryz.zeroValue4
  t5 := Tryz.underlying5
  a5 := Tryz.isAgg5
  z5 := Tryz.sizeOf5
  v5 := Tryz.zeroValue5
  t9 := Tryz.underlying9
  a9 := Tryz.isAgg9
  z9 := Tryz.sizeOf9
  v9 := Tryz.zeroValue9
  t12 := Tryz.underlying12
  a12 := Tryz.isAgg12
  z12 := Tryz.sizeOf12
  v12 := Tryz.zeroValue12
  t46 := Tryz.underlying107
  a46 := Tryz.isAgg107
  z46 := Tryz.sizeOf107
  v46 := Tryz.zeroValue107
  t53 := Tryz.underlying110
  a53 := Tryz.isAgg110
  z53 := Tryz.sizeOf110
  v53 := Tryz.zeroValue110
  t119 := Tryz.underlying170
  a119 := Tryz.isAgg170
  z119 := Tryz.sizeOf170
  t138 := Tryz.underlying172
  a138 := Tryz.isAgg172
  z138 := Tryz.sizeOf172
  v138 := Tryz.zeroValue172
  t139 := Tryz.underlying173
  a139 := Tryz.isAgg173
  z139 := Tryz.sizeOf173
  v139 := Tryz.zeroValue173
  g3 := by kernel_rfl
  g4 := by kernel_rfl }

/-- The two tables lie where they lie. -/
def Tabs (w : World) : Prop := Lib.Utf8Tabs 1 2 w

theorem ValidString_any (l : List UInt8) (w : World) (hl : l.length ≤ 4294967296) (hT : Tabs w) :
    Calls Tryz.prog 123 #[.string ⟨l.toArray⟩] w (Ret w (.bool (Lib.validD l))) :=
  (Any.utf8_ValidString lays196 ⟨l.toArray⟩ w (by simp [ByteArray.size]; omega) hT).mono fun _ _ ⟨he, hw⟩ => ⟨he, hw⟩
end Go.Proofs.YtjajoiahgfafgaaGreatDoor
end

/- Plain laws of the reading of a rune. -/
section
set_option linter.unusedVariables false
set_option linter.unusedSimpArgs false
namespace Go.Proofs.YtjajoiahgfafgaaGreatDoor.Plain
open Go.Lib

/-- how many bytes the rune has at which a text begins; 0: none -/
def runeW (l : List UInt8) : Nat := if (decodeL l).1 = 65533 ∧ (decodeL l).2 = 1 then 0 else (decodeL l).2
def runeN (m b0 b1 b2 b3 : Nat) : Nat := if (decodeN m b0 b1 b2 b3).1 = 65533 ∧ (decodeN m b0 b1 b2 b3).2 = 1 then 0 else (decodeN m b0 b1 b2 b3).2
theorem runeW_N (l : List UInt8) (k : Nat) : runeW (l.drop k) = runeN (l.length - k) (l.getD k 0).toNat (l.getD (k + 1) 0).toNat (l.getD (k + 2) 0).toNat (l.getD (k + 3) 0).toNat := by
  have e : decodeL (l.drop k) = decodeN (l.length - k) (l.getD k 0).toNat (l.getD (k + 1) 0).toNat (l.getD (k + 2) 0).toNat (l.getD (k + 3) 0).toNat := by
    rw [decodeL_N]
    simp [List.getD, List.getElem?_drop]
  unfold runeW runeN
  rw [e]
def vAt (l : List UInt8) (k v0 : Nat) : Nat → Nat
  | 0 => v0
  | 1 => v0
  | i + 2 => vAt l k v0 (i + 1) * 64 + ((l.getD (k + (i + 1)) 0).toNat - 128)
theorem vAt_one (l : List UInt8) (k v0 : Nat) : vAt l k v0 1 = v0 := rfl
theorem vAt_succ (l : List UInt8) (k v0 i : Nat) (h : 1 ≤ i) : vAt l k v0 (i + 1) = vAt l k v0 i * 64 + ((l.getD (k + i) 0).toNat - 128) := by
  obtain ⟨j, rfl⟩ : ∃ j, i = j + 1 := ⟨i - 1, by omega⟩
  rfl
theorem vAt_le (l : List UInt8) (k v0 : Nat) (h : v0 ≤ 31) : ∀ i, 1 ≤ i → i ≤ 4 → vAt l k v0 i ≤ 16777215 := by
  intro i h1 h2
  have b : ∀ j, (l.getD (k + j) 0).toNat < 256 := fun j => (l.getD (k + j) 0).toNat_lt
  have b1 := b 1
  have b2 := b 2
  have b3 := b 3
  have e2 : vAt l k v0 2 = _ := vAt_succ l k v0 1 (by omega)
  have e3 : vAt l k v0 3 = _ := vAt_succ l k v0 2 (by omega)
  have e4 : vAt l k v0 4 = _ := vAt_succ l k v0 3 (by omega)
  rw [vAt_one] at e2
  have : i = 1 ∨ i = 2 ∨ i = 3 ∨ i = 4 := by omega
  rcases this with rfl | rfl | rfl | rfl
  · rw [vAt_one]; omega
  · omega
  · omega
  · omega
def finW (n low v : Nat) : Nat := if v < low ∨ 1114111 < v ∨ (55296 ≤ v ∧ v ≤ 57343) then 0 else n

theorem runeW_asc (l : List UInt8) (k : Nat) (h : (l.getD k 0).toNat < 128) : runeW (l.drop k) = 1 := by
  rw [runeW_N]; unfold runeN decodeN; rw [if_pos h, if_neg (fun e => by have := e.1; simp only at this; omega)]
theorem runeW_bad (l : List UInt8) (k : Nat) (h : (128 ≤ (l.getD k 0).toNat ∧ (l.getD k 0).toNat < 194) ∨ 245 ≤ (l.getD k 0).toNat) : runeW (l.drop k) = 0 := by
  have := (l.getD k 0).toNat_lt
  rw [runeW_N]; unfold runeN; rw [decodeN_bad _ _ _ _ _ (by omega)]; rfl

set_option maxHeartbeats 1000000 in
theorem runeN_2 (m b0 b1 b2 b3 : Nat) (hlo : 194 ≤ b0) (hhi : b0 ≤ 223) (h1 : b1 < 256) (h2 : b2 < 256) (h3 : b3 < 256) :
    (m < 2 → 0 < m → runeN m b0 b1 b2 b3 = 0) ∧ (¬ m < 2 → ¬ (128 ≤ b1 ∧ b1 ≤ 191) → runeN m b0 b1 b2 b3 = 0) ∧ (¬ m < 2 → (128 ≤ b1 ∧ b1 ≤ 191) → runeN m b0 b1 b2 b3 = finW 2 128 ((b0 - 192) * 64 + (b1 - 128))) := by
  refine ⟨?_, ?_, ?_⟩
  all_goals
    intros
    unfold runeN
    try unfold finW
    generalize hd : decodeN m b0 b1 b2 b3 = d
    unfold decodeN at hd
    repeat' split at hd
    all_goals subst hd
    all_goals simp only [true_and, and_true, reduceIte]
    all_goals (repeat' split)
    all_goals first | rfl | omega

theorem runeW_2 (l : List UInt8) (k : Nat) (hk : k < l.length) (hlo : 194 ≤ (l[k]).toNat) (hhi : (l[k]).toNat ≤ 223) :
    (l.length < k + 2 → runeW (l.drop k) = 0) ∧ (∀ i, 1 ≤ i → i < 2 → ¬ l.length < k + 2 → ¬ (128 ≤ (l.getD (k + i) 0).toNat ∧ (l.getD (k + i) 0).toNat ≤ 191) → runeW (l.drop k) = 0) ∧
      (¬ l.length < k + 2 → (∀ j, 1 ≤ j → j < 2 → 128 ≤ (l.getD (k + j) 0).toNat ∧ (l.getD (k + j) 0).toNat ≤ 191) → runeW (l.drop k) = finW 2 128 (vAt l k ((l[k]).toNat - 192) 2)) := by
  have hg : l.getD k 0 = l[k] := by simp [List.getD, hk]
  have h := runeN_2 (l.length - k) (l.getD k 0).toNat (l.getD (k + 1) 0).toNat (l.getD (k + 2) 0).toNat (l.getD (k + 3) 0).toNat (by rw [hg]; exact hlo) (by rw [hg]; exact hhi) (UInt8.toNat_lt _) (UInt8.toNat_lt _) (UInt8.toNat_lt _)
  rw [← runeW_N, hg] at h
  refine ⟨fun hl => h.1 (by omega) (by omega), fun i h1 h2 hl hc => ?_, fun hl hc => ?_⟩
  · obtain rfl : i = 1 := by omega
    exact h.2.1 (by omega) hc
  · exact h.2.2 (by omega) (hc 1 (by omega) (by omega))

set_option maxHeartbeats 1000000 in
theorem runeN_3 (m b0 b1 b2 b3 : Nat) (hlo : 224 ≤ b0) (hhi : b0 ≤ 239) (h1 : b1 < 256) (h2 : b2 < 256) (h3 : b3 < 256) :
    (m < 3 → 0 < m → runeN m b0 b1 b2 b3 = 0) ∧ (¬ m < 3 → ¬ (128 ≤ b1 ∧ b1 ≤ 191) → runeN m b0 b1 b2 b3 = 0) ∧ (¬ m < 3 → ¬ (128 ≤ b2 ∧ b2 ≤ 191) → runeN m b0 b1 b2 b3 = 0) ∧ (¬ m < 3 → (128 ≤ b1 ∧ b1 ≤ 191) → (128 ≤ b2 ∧ b2 ≤ 191) → runeN m b0 b1 b2 b3 = finW 3 2048 (((b0 - 224) * 64 + (b1 - 128)) * 64 + (b2 - 128))) := by
  refine ⟨?_, ?_, ?_, ?_⟩
  all_goals
    intros
    unfold runeN
    try unfold finW
    generalize hd : decodeN m b0 b1 b2 b3 = d
    unfold decodeN at hd
    repeat' split at hd
    all_goals subst hd
    all_goals simp only [true_and, and_true, reduceIte]
    all_goals (repeat' split)
    all_goals first | rfl | omega

theorem runeW_3 (l : List UInt8) (k : Nat) (hk : k < l.length) (hlo : 224 ≤ (l[k]).toNat) (hhi : (l[k]).toNat ≤ 239) :
    (l.length < k + 3 → runeW (l.drop k) = 0) ∧ (∀ i, 1 ≤ i → i < 3 → ¬ l.length < k + 3 → ¬ (128 ≤ (l.getD (k + i) 0).toNat ∧ (l.getD (k + i) 0).toNat ≤ 191) → runeW (l.drop k) = 0) ∧
      (¬ l.length < k + 3 → (∀ j, 1 ≤ j → j < 3 → 128 ≤ (l.getD (k + j) 0).toNat ∧ (l.getD (k + j) 0).toNat ≤ 191) → runeW (l.drop k) = finW 3 2048 (vAt l k ((l[k]).toNat - 224) 3)) := by
  have hg : l.getD k 0 = l[k] := by simp [List.getD, hk]
  have h := runeN_3 (l.length - k) (l.getD k 0).toNat (l.getD (k + 1) 0).toNat (l.getD (k + 2) 0).toNat (l.getD (k + 3) 0).toNat (by rw [hg]; exact hlo) (by rw [hg]; exact hhi) (UInt8.toNat_lt _) (UInt8.toNat_lt _) (UInt8.toNat_lt _)
  rw [← runeW_N, hg] at h
  refine ⟨fun hl => h.1 (by omega) (by omega), fun i h1 h2 hl hc => ?_, fun hl hc => ?_⟩
  · have : i = 1 ∨ i = 2 := by omega
    rcases this with rfl | rfl
    · exact h.2.1 (by omega) hc
    · exact h.2.2.1 (by omega) hc
  · exact h.2.2.2 (by omega) (hc 1 (by omega) (by omega)) (hc 2 (by omega) (by omega))

set_option maxHeartbeats 1000000 in
theorem runeN_4 (m b0 b1 b2 b3 : Nat) (hlo : 240 ≤ b0) (hhi : b0 ≤ 244) (h1 : b1 < 256) (h2 : b2 < 256) (h3 : b3 < 256) :
    (m < 4 → 0 < m → runeN m b0 b1 b2 b3 = 0) ∧ (¬ m < 4 → ¬ (128 ≤ b1 ∧ b1 ≤ 191) → runeN m b0 b1 b2 b3 = 0) ∧ (¬ m < 4 → ¬ (128 ≤ b2 ∧ b2 ≤ 191) → runeN m b0 b1 b2 b3 = 0) ∧ (¬ m < 4 → ¬ (128 ≤ b3 ∧ b3 ≤ 191) → runeN m b0 b1 b2 b3 = 0) ∧ (¬ m < 4 → (128 ≤ b1 ∧ b1 ≤ 191) → (128 ≤ b2 ∧ b2 ≤ 191) → (128 ≤ b3 ∧ b3 ≤ 191) → runeN m b0 b1 b2 b3 = finW 4 65536 ((((b0 - 240) * 64 + (b1 - 128)) * 64 + (b2 - 128)) * 64 + (b3 - 128))) := by
  refine ⟨?_, ?_, ?_, ?_, ?_⟩
  all_goals
    intros
    unfold runeN
    try unfold finW
    generalize hd : decodeN m b0 b1 b2 b3 = d
    unfold decodeN at hd
    repeat' split at hd
    all_goals subst hd
    all_goals simp only [true_and, and_true, reduceIte]
    all_goals (repeat' split)
    all_goals first | rfl | omega

theorem runeW_4 (l : List UInt8) (k : Nat) (hk : k < l.length) (hlo : 240 ≤ (l[k]).toNat) (hhi : (l[k]).toNat ≤ 244) :
    (l.length < k + 4 → runeW (l.drop k) = 0) ∧ (∀ i, 1 ≤ i → i < 4 → ¬ l.length < k + 4 → ¬ (128 ≤ (l.getD (k + i) 0).toNat ∧ (l.getD (k + i) 0).toNat ≤ 191) → runeW (l.drop k) = 0) ∧
      (¬ l.length < k + 4 → (∀ j, 1 ≤ j → j < 4 → 128 ≤ (l.getD (k + j) 0).toNat ∧ (l.getD (k + j) 0).toNat ≤ 191) → runeW (l.drop k) = finW 4 65536 (vAt l k ((l[k]).toNat - 240) 4)) := by
  have hg : l.getD k 0 = l[k] := by simp [List.getD, hk]
  have h := runeN_4 (l.length - k) (l.getD k 0).toNat (l.getD (k + 1) 0).toNat (l.getD (k + 2) 0).toNat (l.getD (k + 3) 0).toNat (by rw [hg]; exact hlo) (by rw [hg]; exact hhi) (UInt8.toNat_lt _) (UInt8.toNat_lt _) (UInt8.toNat_lt _)
  rw [← runeW_N, hg] at h
  refine ⟨fun hl => h.1 (by omega) (by omega), fun i h1 h2 hl hc => ?_, fun hl hc => ?_⟩
  · have : i = 1 ∨ i = 2 ∨ i = 3 := by omega
    rcases this with rfl | rfl | rfl
    · exact h.2.1 (by omega) hc
    · exact h.2.2.1 (by omega) hc
    · exact h.2.2.2.1 (by omega) hc
  · exact h.2.2.2.2 (by omega) (hc 1 (by omega) (by omega)) (hc 2 (by omega) (by omega)) (hc 3 (by omega) (by omega))

/-- valid: rune by rune -/
theorem validD_rune (l : List UInt8) (k : Nat) (hk : k < l.length) : validD (l.drop k) = if runeW (l.drop k) = 0 then false else validD (l.drop (k + runeW (l.drop k))) := by
  have hne : l.drop k ≠ [] := by intro e; have := congrArg List.length e; simp at this; omega
  have hw := decodeL_width (l.drop k)
  have hpos : 0 < (l.drop k).length := by simp; omega
  rw [validD_step _ hne]
  unfold runeW
  split
  · simp
  · rw [if_neg (by omega), List.drop_drop]
set_option maxHeartbeats 1000000 in
theorem runeN_le (m b0 b1 b2 b3 : Nat) (hm : 0 < m) : runeN m b0 b1 b2 b3 ≤ m := by
  unfold runeN
  generalize hd : decodeN m b0 b1 b2 b3 = d
  unfold decodeN at hd
  repeat' split at hd
  all_goals subst hd
  all_goals simp only [true_and, and_true]
  all_goals (repeat' split)
  all_goals omega
theorem runeW_le (l : List UInt8) (k : Nat) (hk : k < l.length) : runeW (l.drop k) ≤ l.length - k := by
  rw [runeW_N]; exact runeN_le _ _ _ _ _ (by omega)
/-- a rune from 128 on, where a text is ranged over -/
theorem dec_hi (l : List UInt8) (i : Nat) (hi : i < l.length) (h : 128 ≤ (l.getD i 0).toNat) :
    128 ≤ (Utf8.decode ⟨l.toArray⟩ i).1 ∧ (Utf8.decode ⟨l.toArray⟩ i).1 ≤ 1114111 ∧ Utf8.valid ((Utf8.decode ⟨l.toArray⟩ i).1 : Int) = true ∧ 1 ≤ (Utf8.decode ⟨l.toArray⟩ i).2 ∧ i + (Utf8.decode ⟨l.toArray⟩ i).2 ≤ l.length ∧
      ∀ j, i ≤ j → j < i + (Utf8.decode ⟨l.toArray⟩ i).2 → 128 ≤ (l.getD j 0).toNat := by
  rw [decode_N]
  simp only [List.toList_toArray]
  have k0 := (l.getD i 0).toNat_lt
  have k1 := (l.getD (i + 1) 0).toNat_lt
  have k2 := (l.getD (i + 2) 0).toNat_lt
  have k3 := (l.getD (i + 3) 0).toNat_lt
  have hj : ∀ (k : Nat), (∀ m, m < k → 128 ≤ (l.getD (i + m) 0).toNat) → ∀ j, i ≤ j → j < i + k → 128 ≤ (l.getD j 0).toNat := fun k hk j h1 h2 => by
    have := hk (j - i) (by omega)
    rwa [show i + (j - i) = j by omega] at this
  generalize hx0 : l.getD i 0 = x0 at *
  generalize hx1 : l.getD (i + 1) 0 = x1 at *
  generalize hx2 : l.getD (i + 2) 0 = x2 at *
  generalize hx3 : l.getD (i + 3) 0 = x3 at *
  unfold Utf8.valid
  rcases decodeN_shape (l.length - i) x0.toNat x1.toNat x2.toNat x3.toNat with ⟨c, e⟩ | ⟨c1, c2, c3, cv, e⟩ | ⟨c1, c2, c3, c4, cv, cs, e⟩ | ⟨c1, c2, c3, c4, c5, cv, cw, e⟩ | e
  · omega
  · rw [e]
    refine ⟨by simp only; omega, by simp only; omega, by simp; omega, by simp, by simp only; omega, hj _ (fun m hm => ?_)⟩
    have : m = 0 ∨ m = 1 := by simp only at hm; omega
    rcases this with rfl | rfl
    · rw [Nat.add_zero, hx0]; omega
    · rw [hx1]; omega
  · rw [e]
    refine ⟨by simp only; omega, by simp only; omega, by simp; omega, by simp, by simp only; omega, hj _ (fun m hm => ?_)⟩
    have : m = 0 ∨ m = 1 ∨ m = 2 := by simp only at hm; omega
    rcases this with rfl | rfl | rfl
    · rw [Nat.add_zero, hx0]; omega
    · rw [hx1]; omega
    · rw [hx2]; omega
  · rw [e]
    refine ⟨by simp only; omega, by simp only; omega, by simp; omega, by simp, by simp only; omega, hj _ (fun m hm => ?_)⟩
    have : m = 0 ∨ m = 1 ∨ m = 2 ∨ m = 3 := by simp only at hm; omega
    rcases this with rfl | rfl | rfl | rfl
    · rw [Nat.add_zero, hx0]; omega
    · rw [hx1]; omega
    · rw [hx2]; omega
    · rw [hx3]; omega
  · rw [e]
    refine ⟨by simp, by simp, by simp, by simp, by simp only; omega, hj _ (fun m hm => ?_)⟩
    obtain rfl : m = 0 := by simp only at hm; omega
    rw [Nat.add_zero, hx0]; omega
theorem dec_lo (l : List UInt8) (i : Nat) (h : (l.getD i 0).toNat < 128) : Utf8.decode ⟨l.toArray⟩ i = ((l.getD i 0).toNat, 1) := by
  rw [decode_N]; simp only [List.toList_toArray]; exact decodeN_ascii _ _ _ _ _ h
end Go.Proofs.YtjajoiahgfafgaaGreatDoor.Plain
end

/- strings.ContainsAny for '/' and the byte 0. -/
section
namespace Go.Proofs.YtjajoiahgfafgaaGreatDoor
open Go.RowKit Plain

theorem IndexByte_none (s : ByteArray) (c : UInt8) (w : World) (hs : s.data.toList = []) :
    Calls Tryz.prog 161 #[.string s, .int .u8 (c.toNat : Int)] w (Ret w (.int .i64 (-1))) :=
  (Tryz.strings_IndexByte s (c.toNat : Int) w).mono fun e w' ⟨he, hw⟩ => ⟨by rw [he, hs]; rfl, hw ▸ Below.refl _ _⟩

set_option maxHeartbeats 2000000 in
set_option maxRecDepth 100000 in
theorem IndexRune_hi (r : Int) (w : World) (h0 : 128 ≤ r) (hr : r ≤ 1114111) (hne : r ≠ 65533) (hv : Utf8.valid r = true) :
    Calls Tryz.prog 152 #[.string ⟨#[47, 0]⟩, .int .i32 r] w (Ret w (.int .i64 (-1))) := by
  obtain ⟨hs2, hs4, hlast⟩ := encode_facts r hv h0
  have hvr : Lib.validRune r = true := by
    unfold Utf8.valid at hv
    unfold Lib.validRune
    simp at hv ⊢
    omega
  have HV := Lib.hid (Tryz.utf8_ValidRune r w)
  rw [hvr] at HV
  have hd : ((r : Int) == 65533) = false := by simpa using hne
  have hlast' := hlast (by omega)
  have hd2 : decide (r < 128) = false := by simp; omega
  clear hne hvr
  have g2 : (2 : Int) ≤ (Utf8.encode r).size := by omega
  have g4 : ((Utf8.encode r).size : Int) ≤ 4 := by omega
  by_cases h2 : (Utf8.encode r).size = 2
  · have h1 : 1 < (Utf8.encode r).size := by omega
    obtain ⟨x, hx⟩ : ∃ x, (Utf8.encode r)[1]'h1 = x := ⟨_, rfl⟩
    have hl : 128 ≤ x.toNat := by rw [← hx]; simpa [h2] using hlast'
    have x1 : ((x.toNat : Int) != 0) = true := by simp; omega
    have x2 : ((0 : Int) != x.toNat) = true := by simp; omega
    clear hlast hlast' hl hs2 hs4
    go_enter Tryz.func152, Tryz.ntmps152
    go_wp2_with (fail)
    refine HV.out.mono ?_
    rintro e w1 ⟨rfl, rfl⟩
    go_wp2_with (fail)
    go_step3
    go_wp2_with (fail)
    go_loopw [9] (fun t9 W => t9 = .int .i64 1 ∧ W = w1) (fun _ _ => 0)
    case atStart => exact ⟨rfl, rfl⟩
    case round =>
      obtain ⟨rfl, rfl⟩ := hrel
      go_wp2_with (fail)
      go_step3
      go_wp2_with (fail)
      refine wp_region_below (by kernel_rfl) (by kernel_rfl) ?_
      repeat (go_big_quiet_step (fail))
      refine wpQuiet_nil ?_
      intro W2 hW2
      go_wp2_with (fail)
      have e2 : IntKind.i64.wrap 2 = 2 := by decide
      refine wp_region_below (by kernel_rfl) (by kernel_rfl) ?_
      repeat (go_big_quiet_step ((intro hW; go_at_call 161; exact Ret.quiet hW (IndexByte_none _ _ _ rfl))))
      refine wpQuiet_nil ?_
      intro W3 hW3
      go_wp2_with (fail)
      rw [Exit.noGoto_ret]
      go_wp2_with (fail)
      rw [Exit.noGoto_ret]
      go_ret
      exact ⟨rfl, hW2.trans (hW3.mono hW2.size)⟩
  · have h3 : (2 : Int) ≤ ((Utf8.encode r).size : Int) - 1 := by omega
    clear hlast hlast' h2
    go_enter Tryz.func152, Tryz.ntmps152
    go_wp2_with (fail)
    refine HV.out.mono ?_
    rintro e w1 ⟨rfl, rfl⟩
    go_wp2_with (fail)
    go_step3
    go_wp2_with (fail)
    go_loopw [9] (fun t9 W => t9 = .int .i64 (((Utf8.encode r).size : Int) - 1) ∧ W = w1) (fun _ _ => 0)
    case atStart => exact ⟨rfl, rfl⟩
    case round =>
      obtain ⟨rfl, rfl⟩ := hrel
      go_wp2_with (fail)
      rw [Exit.noGoto_ret]
      go_ret
      exact ⟨rfl, Below.refl _ _⟩

set_option maxHeartbeats 2000000 in
set_option maxRecDepth 100000 in
theorem IndexRune_fffd (w : World) :
    Calls Tryz.prog 152 #[.string ⟨#[47, 0]⟩, .int .i32 65533] w (Ret w (.int .i64 (-1))) := by
  go_enter Tryz.func152, Tryz.ntmps152
  go_wp2_with (fail)
  go_loopw [5, 6] (fun t5 t6 W => ∃ i : Nat, i ≤ 2 ∧ W = w.iter ⟨#[47, 0]⟩ i) (fun _ _ W => 2 - W.iterPos w.heap.size)
  case atStart => exact ⟨0, by omega, rfl⟩
  case round =>
    obtain ⟨i, hi, rfl⟩ := hrel
    have : i = 0 ∨ i = 1 ∨ i = 2 := by omega
    rcases this with rfl | rfl | rfl
    · have hnx := fun ty => run_next_any (P := Tryz.prog) w ⟨#[47, 0]⟩ 0 ty (by decide)
      rw [show Utf8.decode ⟨#[47, 0]⟩ 0 = (47, 1) by decide +kernel] at hnx
      go_wp2_with (fail)
      go_roundw
      case rel => exact ⟨1, by omega, rfl⟩
      case measure => simp
    · have hnx := fun ty => run_next_any (P := Tryz.prog) w ⟨#[47, 0]⟩ 1 ty (by decide)
      rw [show Utf8.decode ⟨#[47, 0]⟩ 1 = (0, 1) by decide +kernel] at hnx
      go_wp2_with (fail)
      go_roundw
      case rel => exact ⟨2, by omega, rfl⟩
      case measure => simp
    · have hnx := fun ty => run_next_end (P := Tryz.prog) w ⟨#[47, 0]⟩ 2 ty (by decide)
      go_wp2_with (fail)
      go_ret
      exact ⟨rfl, (Below.refl _ _).alloc (Nat.le_refl _) _⟩

/-- some byte of a text is '/' or 0 -/
def anyM (l : List UInt8) : Bool := l.contains 47 || l.contains 0
def IdxOut (w : World) (l : List UInt8) (e : Ending) (w' : World) : Prop := ∃ x : Int, e = .returned (.int .i64 x) ∧ decide (0 ≤ x) = anyM l ∧ Below w.heap.size w w'

theorem IndexRune_lo (x : UInt8) (w : World) (h : x.toNat < 128) :
    Calls Tryz.prog 152 #[.string ⟨#[47, 0]⟩, .int .i32 (x.toNat : Int)] w (Ret w (.int .i64 (Lib.indexByte [47, 0] x))) :=
  (Tryz.strings_IndexRune_ascii ⟨#[47, 0]⟩ (x.toNat : Int) w (by omega) (by omega)).mono fun e w' ⟨he, hw⟩ => ⟨by rw [he]; simp, hw ▸ Below.refl _ _⟩
theorem idx_lo (x : UInt8) : Lib.indexByte [47, 0] x = if x = 47 then 0 else if x = 0 then 1 else -1 := by
  by_cases h : x = 47
  · subst h; rfl
  · by_cases h2 : x = 0
    · subst h2; rfl
    · simp [Lib.indexByte, h, h2, Ne.symm h, Ne.symm h2]

theorem anyM_none {l : List UInt8} (h : ∀ j, j < l.length → l.getD j 0 ≠ 47 ∧ l.getD j 0 ≠ 0) : anyM l = false := by
  unfold anyM
  rw [Bool.or_eq_false_iff]
  constructor
  · rw [← Bool.not_eq_true, List.contains_iff_mem]
    intro hm
    obtain ⟨j, hj, e⟩ := List.mem_iff_getElem.1 hm
    exact (h j hj).1 (by simp [List.getD, hj, e])
  · rw [← Bool.not_eq_true, List.contains_iff_mem]
    intro hm
    obtain ⟨j, hj, e⟩ := List.mem_iff_getElem.1 hm
    exact (h j hj).2 (by simp [List.getD, hj, e])
theorem anyM_some {l : List UInt8} {i : Nat} (hi : i < l.length) (h : l.getD i 0 = 47 ∨ l.getD i 0 = 0) : anyM l = true := by
  have hg : l.getD i 0 = l[i] := by simp [List.getD, hi]
  rw [hg] at h
  have hm := List.getElem_mem hi
  unfold anyM
  rcases h with h | h <;> rw [h] at hm <;> simp [hm]

set_option maxHeartbeats 1000000 in
set_option maxRecDepth 100000 in
theorem IndexAny_short (l : List UInt8) (w : World) (h8 : l.length ≤ 8) :
    Calls Tryz.prog 147 #[.string ⟨l.toArray⟩, .string ⟨#[47, 0]⟩] w (IdxOut w l) := by
  have hS := fun W => Tryz.strings_shouldUseASCIISet (l.length : Int) W
  rw [decide_eq_false (show ¬ (8 : Int) < l.length by omega)] at hS
  have HS := Lib.hid hS
  clear hS
  have hsz : (ByteArray.mk l.toArray).size = l.length := by simp [ByteArray.size]
  go_enter Tryz.func147, Tryz.ntmps147
  go_wp2_with (fail)
  refine (HS.out _).mono ?_
  rintro e w1 ⟨rfl, rfl⟩
  go_wp2_with (fail)
  go_loopw [9, 10] (fun _ _ W => ∃ i : Nat, i ≤ l.length ∧ Hid (∀ j, j < i → l.getD j 0 ≠ 47 ∧ l.getD j 0 ≠ 0) ∧ Hid (W.heap[w1.heap.size]? = some (.stringIter ⟨l.toArray⟩ i)) ∧ Hid (Below w1.heap.size w1 W)) (fun _ _ W => l.length - W.iterPos w1.heap.size)
  case atStart => exact ⟨0, by omega, Lib.hid (fun j h => by omega), Lib.hid (World.iter_heap _ _ _), Lib.hid ((Below.refl _ _).alloc (Nat.le_refl _) _)⟩
  case round =>
    obtain ⟨i, hi, HN, HI, HB⟩ := hrel
    have hk := HI.out
    have hpos : wr.iterPos w1.heap.size = i := by unfold World.iterPos; rw [hk]
    have HP := Lib.hid hpos
    clear hpos
    by_cases hlt : i < l.length
    · have hsz' : i < (ByteArray.mk l.toArray).size := by omega
      by_cases hb : (l.getD i 0).toNat < 128
      · have hnx := fun ty => Lib.run_next_any_at (P := Tryz.prog) wr w1.heap.size ⟨l.toArray⟩ i ty hk hsz'
        rw [dec_lo l i hb] at hnx
        have HS1 := Lib.hid (@anyM_some l i hlt)
        have hik := Lib.iterAt_heap wr w1.heap.size ⟨l.toArray⟩ i (i + 1) hk
        have hib := Lib.below_iterAt HB.out (Nat.le_refl _) ⟨l.toArray⟩ (i + 1)
        have his := Lib.iterAt_size wr w1.heap.size ⟨l.toArray⟩ (i + 1)
        generalize hx : l.getD i 0 = x at *
        have HX := Lib.hid hx
        have HIK := Lib.hid hik
        have HIB := Lib.hid hib
        have HC := Lib.hid (IndexRune_lo x (wr.iterAt w1.heap.size ⟨l.toArray⟩ (i + 1)) hb)
        rw [idx_lo] at HC
        clear hx hik hib hsz hk
        by_cases h1 : x = 47
        · rw [if_pos h1] at HC
          have H1 := Lib.hid h1
          clear h1
          go_wp2_with (fail)
          refine HC.out.mono ?_
          rintro e w2 ⟨rfl, hw2⟩
          go_wp2_with (fail)
          go_ret
          exact ⟨i, rfl, by rw [HS1.out (.inl H1.out)]; simp, HIB.out.trans (hw2.mono HIB.out.size)⟩
        by_cases h2 : x = 0
        · rw [if_neg h1, if_pos h2] at HC
          have H2 := Lib.hid h2
          clear h1 h2
          go_wp2_with (fail)
          refine HC.out.mono ?_
          rintro e w2 ⟨rfl, hw2⟩
          go_wp2_with (fail)
          go_ret
          exact ⟨i, rfl, by rw [HS1.out (.inr H2.out)]; simp, HIB.out.trans (hw2.mono HIB.out.size)⟩
        · rw [if_neg h1, if_neg h2] at HC
          have H12 := Lib.hid (And.intro h1 h2)
          clear h1 h2
          go_wp2_with (fail)
          refine HC.out.mono ?_
          rintro e w2 ⟨rfl, hw2⟩
          have hk2 := (hw2.block w1.heap.size (by have := (Array.getElem?_eq_some_iff.1 HI.out).1; rw [his]; exact this)).trans HIK.out
          have HK2 := Lib.hid hk2
          have HB2 := Lib.hid (HIB.out.trans (hw2.mono HIB.out.size))
          clear hk2 hw2
          go_wp2_with (fail)
          go_roundw
          case rel => exact ⟨i + 1, by omega, Lib.hid (fun j hj => by
            by_cases e : j = i
            · rw [e, HX.out]; exact H12.out
            · exact HN.out j (by omega)), HK2, HB2⟩
          case measure =>
            have : w2.iterPos w1.heap.size = i + 1 := by unfold World.iterPos; rw [HK2.out]
            rw [HP.out, this]; omega
      · obtain ⟨q1, q2, q3, q4, q5, q6⟩ := dec_hi l i hlt (by omega)
        have hnx := fun ty => Lib.run_next_any_at (P := Tryz.prog) wr w1.heap.size ⟨l.toArray⟩ i ty hk hsz'
        generalize Utf8.decode ⟨l.toArray⟩ i = d at *
        obtain ⟨r, m⟩ := d
        simp only at q1 q2 q3 q4 q5 q6 hnx
        have HIK := Lib.hid (Lib.iterAt_heap wr w1.heap.size ⟨l.toArray⟩ i (i + m) hk)
        have HIB := Lib.hid (Lib.below_iterAt HB.out (Nat.le_refl _) ⟨l.toArray⟩ (i + m))
        have his := Lib.iterAt_size wr w1.heap.size ⟨l.toArray⟩ (i + m)
        have HC : Hid (Calls Tryz.prog 152 #[.string ⟨#[47, 0]⟩, .int .i32 (r : Int)] (wr.iterAt w1.heap.size ⟨l.toArray⟩ (i + m)) (Ret (wr.iterAt w1.heap.size ⟨l.toArray⟩ (i + m)) (.int .i64 (-1)))) := by
          by_cases e : r = 65533
          · subst e; exact Lib.hid (IndexRune_fffd _)
          · exact Lib.hid (IndexRune_hi r _ (by omega) (by omega) (by omega) q3)
        have Q6 := Lib.hid q6
        clear q6 q3 hsz hk hb
        go_wp2_with (fail)
        refine HC.out.mono ?_
        rintro e w2 ⟨rfl, hw2⟩
        have hk2 := (hw2.block w1.heap.size (by have := (Array.getElem?_eq_some_iff.1 HI.out).1; rw [his]; exact this)).trans HIK.out
        have HK2 := Lib.hid hk2
        have HB2 := Lib.hid (HIB.out.trans (hw2.mono HIB.out.size))
        clear hk2 hw2
        go_wp2_with (fail)
        go_roundw
        case rel => exact ⟨i + m, by omega, Lib.hid (fun j hj => by
          by_cases e : j < i
          · exact HN.out j e
          · have := Q6.out j (by omega) hj
            exact ⟨fun e => by rw [e] at this; simp at this, fun e => by rw [e] at this; simp at this⟩), HK2, HB2⟩
        case measure =>
          have : w2.iterPos w1.heap.size = i + m := by unfold World.iterPos; rw [HK2.out]
          rw [HP.out, this]; omega
    · have hnx := fun ty => Lib.run_next_end_at (P := Tryz.prog) wr w1.heap.size ⟨l.toArray⟩ i ty hk (by omega)
      have HF := Lib.hid (anyM_none (l := l) (fun j hj => HN.out j (by omega)))
      clear hk hsz
      go_wp2_with (fail)
      go_ret
      exact ⟨-1, rfl, by rw [HF.out]; rfl, HB.out⟩
theorem indexAny_anyM (l : List UInt8) : decide (0 ≤ Lib.indexAny l [47, 0]) = anyM l := by
  induction l with
  | nil => rfl
  | cons b l ih =>
    have hge := Lib.indexAny_ge [47, 0] l
    have e : anyM (b :: l) = (b == 47 || b == 0 || anyM l) := by
      unfold anyM
      simp only [List.contains_cons]
      rw [show ((47 : UInt8) == b) = (b == 47) by rw [Bool.eq_iff_iff]; simp only [beq_iff_eq]; exact eq_comm, show ((0 : UInt8) == b) = (b == 0) by rw [Bool.eq_iff_iff]; simp only [beq_iff_eq]; exact eq_comm]
      cases (b == 47) <;> cases (b == 0) <;> cases l.contains 47 <;> cases l.contains 0 <;> rfl
    rw [e, ← ih]
    have hu : Lib.indexAny (b :: l) [47, 0] = if [47, 0].contains b then 0 else if Lib.indexAny l [47, 0] == -1 then -1 else Lib.indexAny l [47, 0] + 1 := rfl
    rw [hu]
    clear hu
    generalize Lib.indexAny l [47, 0] = x at *
    by_cases h1 : b = 47
    · subst h1; rfl
    · by_cases h2 : b = 0
      · subst h2; rfl
      · have h3 : [47, 0].contains b = false := by simp [h1, h2]
        have h4 : (b == 47) = false := by simpa using h1
        have h5 : (b == 0) = false := by simpa using h2
        rw [h3, h4, h5, Bool.or_self, Bool.false_or, if_neg (by decide)]
        by_cases h6 : x = -1
        · subst h6; rfl
        · rw [if_neg (by simpa using h6), decide_eq_true (by omega), decide_eq_true (by omega)]
theorem IndexAny_any (l : List UInt8) (w : World) (hl : l.length ≤ 4294967280) :
    Calls Tryz.prog 147 #[.string ⟨l.toArray⟩, .string ⟨#[47, 0]⟩] w (IdxOut w l) := by
  by_cases h8 : l.length ≤ 8
  · exact IndexAny_short l w h8
  · have hsz : (ByteArray.mk l.toArray).size = l.length := by simp [ByteArray.size]
    have h116 : (Tryz.prog.info? 145).map (fun i => (i.zero, i.size)) = some (some (.agg (Array.replicate 256 (.bool false))), 256) := by kernel_rfl
    refine (Tryz.strings_IndexAny_long (zero_of_info h116).1 ⟨l.toArray⟩ ⟨#[47, 0]⟩ w (by decide) (by omega) (by omega) (by decide) (fun j b hb => ?_)).mono ?_
    · match j, hb with
      | 0, hb => simp at hb; subst hb; decide
      | 1, hb => simp at hb; subst hb; decide
      | j + 2, hb => simp at hb
    · rintro e w' ⟨rfl, rfl⟩
      exact ⟨_, rfl, indexAny_anyM l, ((Below.refl _ _).alloc (Nat.le_refl _) _).alloc (by simp) _⟩
theorem ContainsAny_any (l : List UInt8) (w : World) (hl : l.length ≤ 4294967280) :
    Calls Tryz.prog 124 #[.string ⟨l.toArray⟩, .string ⟨#[47, 0]⟩] w (Ret w (.bool (anyM l))) := by
  have HC := Lib.hid (IndexAny_any l w hl)
  go_enter Tryz.func124, Tryz.ntmps124
  go_wp2_with (fail)
  refine HC.out.mono ?_
  rintro e w1 ⟨x, rfl, hx, hw⟩
  have HX := Lib.hid hx
  clear hx
  go_wp2_with (fail)
  go_ret
  exact ⟨by rw [← HX.out]; rfl, hw⟩
end Go.Proofs.YtjajoiahgfafgaaGreatDoor
end

/- name.Name. -/
section
namespace Go.Proofs.YtjajoiahgfafgaaGreatDoor
open Go.RowKit Plain

theorem nameOK_any (s : List UInt8) : nameOK s = (!s.isEmpty && decide (s.length ≤ 64) && !(s == [46]) && !(s == [46, 46]) && Lib.validD s && !anyM s) := by
  unfold nameOK anyM
  rw [Bool.not_or, ← Bool.and_assoc]

set_option maxHeartbeats 1000000 in
theorem Name_any (s : List UInt8) (w : World) (hT : Tabs w) :
    Calls Tryz.prog 94 #[.string ⟨s.toArray⟩] w (Ret w (.bool (nameOK s))) := by
  rw [nameOK_any]
  by_cases h1 : s.length ≤ 64
  · have hc1 : decide ((s.length : Int) ≤ 64) = true := by simp; omega
    have hc1' : decide (s.length ≤ 64) = true := by simp; omega
    rw [hc1']
    have HV := Lib.hid (ValidString_any s w (by omega) hT)
    have HA := Lib.hid (fun W => ContainsAny_any s W (by omega))
    generalize Lib.validD s = bv at *
    generalize anyM s = ba at *
    clear hc1'
    obtain ⟨b0, h0⟩ : ∃ b, s.isEmpty = b := ⟨_, rfl⟩
    obtain ⟨b2, h2⟩ : ∃ b, (s == [46]) = b := ⟨_, rfl⟩
    obtain ⟨b3, h3⟩ : ∃ b, (s == [46, 46]) = b := ⟨_, rfl⟩
    rw [h0, h2, h3]
    cases b0 with
    | true =>
      go_enter Tryz.func94, Tryz.ntmps94
      go_wp2_with (fail)
      go_ret
      exact ⟨rfl, Below.refl _ _⟩
    | false =>
      cases b2 with
      | true =>
        go_enter Tryz.func94, Tryz.ntmps94
        go_wp2_with (fail)
        go_ret
        exact ⟨rfl, Below.refl _ _⟩
      | false =>
        cases b3 with
        | true =>
          go_enter Tryz.func94, Tryz.ntmps94
          go_wp2_with (fail)
          go_ret
          exact ⟨rfl, Below.refl _ _⟩
        | false =>
          cases bv with
          | false =>
            go_enter Tryz.func94, Tryz.ntmps94
            go_wp2_with (fail)
            refine HV.out.mono ?_
            rintro e w1 ⟨rfl, hw1⟩
            go_wp2_with (fail)
            go_ret
            exact ⟨rfl, hw1⟩
          | true =>
            go_enter Tryz.func94, Tryz.ntmps94
            go_wp2_with (fail)
            refine HV.out.mono ?_
            rintro e w1 ⟨rfl, hw1⟩
            go_wp2_with (fail)
            refine (HA.out w1).mono ?_
            rintro e w2 ⟨rfl, hw2⟩
            go_wp2_with (fail)
            go_ret
            exact ⟨by simp, hw1.trans (hw2.mono hw1.size)⟩
  · have hc1 : decide ((s.length : Int) ≤ 64) = false := by simp; omega
    have hc1' : decide (s.length ≤ 64) = false := by simp; omega
    rw [hc1']
    have h0 : s.isEmpty = false := by cases s; simp at h1; rfl
    clear hc1'
    go_enter Tryz.func94, Tryz.ntmps94
    go_wp2_with (fail)
    go_ret
    exact ⟨by simp, Below.refl _ _⟩
end Go.Proofs.YtjajoiahgfafgaaGreatDoor
end

/- strings.SplitSeq at '/': the iterator's walk. -/
section
namespace Go.Proofs.YtjajoiahgfafgaaGreatDoor
open Go.RowKit Go.Shelf Plain
attribute [local go_sem] Oper.semAt_some

theorem ib_none {c : UInt8} {l : List UInt8} (h : c ∉ l) : Lib.indexByte l c = -1 := by
  induction l with
  | nil => rfl
  | cons b l ih =>
    simp only [List.mem_cons, not_or] at h
    unfold Lib.indexByte
    rw [if_neg (by simpa using fun e => h.1 e.symm), ih h.2]; rfl
theorem ib_first {c : UInt8} (p r : List UInt8) (h : c ∉ p) : Lib.indexByte (p ++ c :: r) c = p.length := by
  induction p with
  | nil => simp [Lib.indexByte]
  | cons b p ih =>
    simp only [List.mem_cons, not_or] at h
    rw [List.cons_append]
    unfold Lib.indexByte
    rw [if_neg (by simpa using fun e => h.1 e.symm), ih h.2, if_neg (by simp)]
    simp
def strLen (W : World) (b : Nat) : Nat := match W.cell? ⟨b, 0, none⟩ with | some (.string s) => s.size | _ => 0

set_option maxHeartbeats 2000000 in
theorem splitSeq1_in (n l bs bp bv base : Nat) (s : List UInt8) (J : List (List UInt8) → World → Prop) (Jx : List (List UInt8) → World → Prop) (hlen : s.length ≤ 4294967280)
    (hbs : bs < base) (hbp : bp < base) (hbv : bv < base) (hsp : bs ≠ bp) (hsv : bs ≠ bv)
    (hY : ∀ pre x W1, J pre W1 → YieldAt Fence.wide (n - 1) Tryz.prog l #[.string ⟨x.toArray⟩] W1 fun e W' =>
      (e = .returned (.bool true) ∧ J (pre ++ [x]) W' ∧ Below base W1 W') ∨ (e = .returned (.bool false) ∧ Jx (pre ++ [x]) W'))
    (hst : ∀ pre W v, J pre W → J pre (W.setCell ⟨bs, 0, none⟩ v))
    (W : World) (hcs : W.cell? ⟨bs, 0, none⟩ = some (.string ⟨s.toArray⟩)) (hcp : W.cell? ⟨bp, 0, none⟩ = some (.string ⟨#[47]⟩)) (hcv : W.cell? ⟨bv, 0, none⟩ = some (.int .i64 0))
    (hfs : W.frozen? ⟨bs, 0, none⟩ = false) (h0 : J [] W) :
    CallsIn Fence.wide n Tryz.prog 145 #[.func (.yield l) #[] #[], .pointer (some ⟨bp, 0, none⟩), .pointer (some ⟨bs, 0, none⟩), .pointer (some ⟨bv, 0, none⟩)] W fun e W' => (∃ v, e = .returned v) ∧ (J (parts s) W' ∨ ∃ pre, pre <+: parts s ∧ Jx pre W') := by
  have HJ := Lib.hid h0
  have HY := Lib.hid hY
  have HST := Lib.hid hst
  clear hY hst
  refine callsIn_of_wp Tryz.func145 rfl trivial ?_ rfl
  simp only [Tryz.ntmps145, List.size_toArray, List.length_cons, List.length_nil, Nat.reduceAdd, Nat.reduceSub, Array.replicate_succ, Array.replicate_zero, List.push_toArray, List.append_toArray, List.nil_append, List.cons_append]
  gi_wp2
  gi_loopw [7] (fun _ W' => ∃ (d : List (List UInt8)) (r : List UInt8), Hid (parts s = d ++ parts r) ∧ r.length ≤ s.length ∧ W'.cell? ⟨bs, 0, none⟩ = some (.string ⟨r.toArray⟩) ∧ W'.cell? ⟨bp, 0, none⟩ = some (.string ⟨#[47]⟩) ∧ W'.cell? ⟨bv, 0, none⟩ = some (.int .i64 0) ∧ W'.frozen? ⟨bs, 0, none⟩ = false ∧ Hid (J d W')) (fun _ W' => strLen W' bs)
  case atStart => exact ⟨[], s, Lib.hid rfl, Nat.le_refl _, hcs, hcp, hcv, hfs, HJ⟩
  case round =>
    clear hcs hcp hcv hfs HJ h0
    obtain ⟨d, r, HP, hrl, hcs, hcp, hcv, hfs, HJ⟩ := hrel
    by_cases hm : 47 ∈ r
    · obtain ⟨p, q, rfl, hp⟩ := first_c r hm
      have HI := Lib.hid (Tryz.strings_Index_one ⟨(p ++ 47 :: q).toArray⟩ 47 wr)
      rw [show (ByteArray.mk (p ++ 47 :: q).toArray).data.toList = p ++ 47 :: q from rfl, ib_first p q hp] at HI
      have hy := HY.out d p wr HJ.out
      obtain ⟨fn, tmps, assign, body, hy, hR⟩ := hy
      have HR := Lib.hid hR
      have HPP := Lib.hid (parts_first p q hp)
      have hsl : strLen wr bs = (p ++ 47 :: q).length := by unfold strLen; rw [hcs]; simp [ByteArray.size]
      have HSL := Lib.hid hsl
      have hle : p.length + 1 + q.length ≤ s.length := by simp at hrl; omega
      have ht : ((p ++ 47 :: q).drop 0).take (p.length - 0) = p := by simp
      have htt : (p ++ 47 :: q).take p.length = p := by simp
      have hdd : (p ++ 47 :: q).drop (p.length + 1) = q := by rw [← List.drop_drop, List.drop_left' rfl]; rfl
      have htq : q.take (p.length + (q.length + 1) - (p.length + 1)) = q := List.take_of_length_le (by omega)
      have hdn : decide ((p.length : Int) < 0) = false := by simp
      clear hR hsl hm hp
      gi_wp2
      refine ⟨trivial, fun h => (by cases h), (callsIn_wide.2 HI.out).mono ?_⟩
      rintro e w' ⟨rfl, rfl⟩
      gi_wp2
      refine ⟨fun h => (by cases h), HR.out.mono ?_⟩
      rintro e W3 (⟨rfl, hJ3, hk3⟩ | ⟨rfl, hJx3⟩)
      · have hcs3 := (hk3.cell (p := ⟨bs, 0, none⟩) hbs).trans hcs
        have hcp3 := (hk3.cell (p := ⟨bp, 0, none⟩) hbp).trans hcp
        have hcv3 := (hk3.cell (p := ⟨bv, 0, none⟩) hbv).trans hcv
        have hfs3 := (hk3.frozen (p := ⟨bs, 0, none⟩) hbs).trans hfs
        have HJ3 := Lib.hid hJ3
        clear hJ3 hk3 hcs hcp hcv hfs hy
        gi_wp2
        go_roundw
        case rel =>
          refine ⟨d ++ [p], q, Lib.hid (by rw [HP.out, HPP.out]; simp), by omega, World.cell?_setCell_same' _ _ _ (by rw [hcs3]; rfl), ?_, ?_, ?_, Lib.hid (HST.out _ _ _ HJ3.out)⟩
          · rw [World.cell?_setCell_other _ _ _ _ (by intro e; injection e with e; exact hsp e)]; exact hcp3
          · rw [World.cell?_setCell_other _ _ _ _ (by intro e; injection e with e; exact hsv e)]; exact hcv3
          · rw [World.frozen?_setCell]; exact hfs3
        case measure =>
          rw [HSL.out]
          unfold strLen
          rw [World.cell?_setCell_same' _ _ _ (by rw [hcs3]; rfl)]
          simp [ByteArray.size]
          omega
      · gi_wp2
        refine bodyPost_ret (results_none rfl _ _ _) rfl ?_
        exact ⟨⟨_, rfl⟩, .inr ⟨_, ⟨parts q, by rw [HP.out, HPP.out]; simp⟩, hJx3⟩⟩
    · have HI := Lib.hid (Tryz.strings_Index_one ⟨r.toArray⟩ 47 wr)
      rw [show (ByteArray.mk r.toArray).data.toList = r from rfl, ib_none hm] at HI
      have hy := HY.out d r wr HJ.out
      obtain ⟨fn, tmps, assign, body, hy, hR⟩ := hy
      have HR := Lib.hid hR
      have HPP := Lib.hid (parts_none r hm)
      clear hR hm
      gi_wp2
      refine ⟨trivial, fun h => (by cases h), (callsIn_wide.2 HI.out).mono ?_⟩
      rintro e w' ⟨rfl, rfl⟩
      gi_wp2
      refine ⟨fun h => (by cases h), HR.out.mono ?_⟩
      rintro e W3 (⟨rfl, hJ3, hk3⟩ | ⟨rfl, hJx3⟩)
      · gi_wp2
        go_end0
        exact ⟨⟨_, rfl⟩, .inl (by rw [HP.out, HPP.out]; exact hJ3)⟩
      · gi_wp2
        go_end0
        exact ⟨⟨_, rfl⟩, .inr ⟨_, ⟨[], by rw [HP.out, HPP.out]; simp⟩, hJx3⟩⟩

theorem SplitSeq_any (s : List UInt8) (w : World) :
    Calls Tryz.prog 93 #[.string ⟨s.toArray⟩, .string ⟨#[47]⟩] w fun e w' =>
      e = .returned (.func (.func 145) #[] #[.pointer (some ⟨w.heap.size + 1, 0, none⟩), .pointer (some ⟨w.heap.size, 0, none⟩), .pointer (some ⟨w.heap.size + 2, 0, none⟩)]) ∧
      w' = ((w.alloc (.cells #[.string ⟨s.toArray⟩] 9)).alloc (.cells #[.string ⟨#[47]⟩] 9)).alloc (.cells #[.int .i64 0] 3) := by
  have h1 : Calls Tryz.prog 122 #[.string ⟨s.toArray⟩, .string ⟨#[47]⟩, .int .i64 0] w fun e w' =>
      e = .returned (.func (.func 145) #[] #[.pointer (some ⟨w.heap.size + 1, 0, none⟩), .pointer (some ⟨w.heap.size, 0, none⟩), .pointer (some ⟨w.heap.size + 2, 0, none⟩)]) ∧
      w' = ((w.alloc (.cells #[.string ⟨s.toArray⟩] 9)).alloc (.cells #[.string ⟨#[47]⟩] 9)).alloc (.cells #[.int .i64 0] 3) := by
    go_enter Tryz.func122, Tryz.ntmps122
    go_wp2_with (fail)
    go_ret
    exact ⟨rfl, rfl⟩
  have H1 := Lib.hid h1
  clear h1
  go_enter Tryz.func93, Tryz.ntmps93
  go_wp2_with (fail)
  refine H1.out.mono ?_
  rintro e w1 ⟨rfl, rfl⟩
  go_wp2_with (fail)
  go_ret
  exact ⟨rfl, rfl⟩
end Go.Proofs.YtjajoiahgfafgaaGreatDoor
end

/- A range over a function whose iterator keeps cells of its own: how the statement is walked at the wide fence. -/
section
namespace Go.Proofs.YtjajoiahgfafgaaGreatDoor
open Go.RowKit

/-- How a round's body may be left. -/
def ownRound {α : Type} (B : Nat) (I Ix : List α → World → Prop) (xs : List α) (W : World) : Exit → Act → World → Prop
  | .normal, _, W' => (∀ k, B ≤ k → k < W.heap.size → W'.heap[k]? = W.heap[k]?) ∧ Below B W W' ∧ I xs W'
  | .ret, _, W' => (∀ k, B ≤ k → k < W.heap.size → W'.heap[k]? = W.heap[k]?) ∧ Ix xs W'
  | _, _, _ => False

theorem below_put {B : Nat} {a w : World} (h : Below B a w) {l : Nat} (hl : B ≤ l) (o : Obj) : Below B a (w.putObj l o) :=
  ⟨h.os, h.tape, h.output, by rw [World.putObj_size]; exact h.size, fun k hk => (World.putObj_heap_other (by omega)).trans (h.block k hk)⟩

theorem rangeFunc_own {α : Type} {n : Nat} {P : Program} {g : Operand} {ps : Array Tmp} {assign body : Code} {Q : Exit → Act → World → Prop} {a : Act} {w : World}
    {gf : Nat} {lb : Array Value} (hg : a.eval g = .func (.func gf) #[] lb) (eg : ∀ args w, (callFunc gf args).run P w = .ok (.enter gf args) w)
    {encs : α → Array Value} (hps : ∀ x, (encs x).size = ps.size) (all : List α) (I Ix : List α → World → Prop) (bs : Nat) (hbs : bs < w.heap.size)
    (hseq : ∀ (l : Nat) (J Jx : List α → World → Prop) (W : World), (∀ k, k < w.heap.size → W.heap[k]? = w.heap[k]?) → (∀ pre W v, J pre W → J pre (W.setCell ⟨bs, 0, none⟩ v)) →
      (∀ pre x W1, J pre W1 → YieldAt Fence.wide (n - 1 - 1) P l (encs x) W1 fun e W' =>
        (e = .returned (.bool true) ∧ J (pre ++ [x]) W' ∧ Below w.heap.size W1 W') ∨ (e = .returned (.bool false) ∧ Jx (pre ++ [x]) W')) → J [] W →
      CallsIn Fence.wide (n - 1) P gf (#[.func (.yield l) #[] #[]] ++ lb) W fun e W' => (∃ v, e = .returned v) ∧ (J all W' ∨ ∃ pre, pre <+: all ∧ Jx pre W'))
    (hIst : ∀ pre W v, I pre W → I pre (W.setCell ⟨bs, 0, none⟩ v))
    (hIput : ∀ pre W l o, w.heap.size ≤ l → I pre W → I pre (W.putObj l o)) (hXput : ∀ pre W l o, w.heap.size ≤ l → Ix pre W → Ix pre (W.putObj l o))
    (h0 : ∀ o1 o2, I [] ((w.alloc o1).alloc o2)) (a₁ : α → Act)
    (hassign : ∀ (l : Nat) (x : α) (W : World) (K : Act → World → Prop), K (a₁ x) W →
      assign.wpIn (Fence.wide.inRound l) (n - 1 - 1) P (Exit.then K (fun _ _ _ => False)) { tmps := (ps.zip (encs x)).foldl (fun t (p, v) => t.setIfInBounds p v) a.tmps, defers := [] } W)
    (hbody : ∀ (l : Nat) (pre : List α) (x : α) (W : World), I pre W → w.heap.size < W.heap.size → body.wpIn (Fence.wide.inRound l) (n - 1 - 1) P (ownRound w.heap.size I Ix (pre ++ [x]) W) (a₁ x) W)
    (hdone : ∀ (W : World), I all W → W.heap[w.heap.size]? = some (.deferred (some [])) → Q .normal { a with defers := { target := .collected w.heap.size, args := #[] } :: a.defers } W)
    (hstop : ∀ (pre : List α) (W : World), pre <+: all → Ix pre W → W.heap[w.heap.size]? = some (.deferred (some [])) → Code.ret.wpIn Fence.wide n P Q { a with defers := { target := .collected w.heap.size, args := #[] } :: a.defers } W) :
    (Code.rangeFunc g ps assign body).wpIn Fence.wide n P Q a w := by
  refine wpIn_rangeFunc ?_
  intro fn hfn
  obtain ⟨rec, hrec⟩ : ∃ rec : LoopState → Option Code → Loop, rec = fun st pe => { state := st, pending := pe, fn, tmps := a.tmps, params := ps, assign, body, defers := w.heap.size } := ⟨_, rfl⟩
  obtain ⟨W1, hW1⟩ : ∃ W1, (w.alloc (.deferred (some []))).alloc (.loop (rec .ready none)) = W1 := ⟨_, rfl⟩
  have hL1 : W1.heap[w.heap.size + 1]? = some (.loop (rec .ready none)) := by
    rw [← hW1]; have := World.alloc_heap_new (w.alloc (.deferred (some []))) (.loop (rec .ready none)); rwa [World.size_alloc] at this
  have hK1 : W1.heap[w.heap.size]? = some (.deferred (some [])) := by
    rw [← hW1]; exact (Below.heap_alloc _ _ _ (by simp)).trans (World.alloc_heap_new w _)
  have hold : ∀ k, k < w.heap.size → W1.heap[k]? = w.heap[k]? := fun k hk => by
    rw [← hW1]; exact (Below.heap_alloc _ _ _ (by simp; omega)).trans (Below.heap_alloc _ _ _ hk)
  refine ⟨w.heap.size + 1, [{ target := .collected w.heap.size, args := #[] }], W1, { target := .fn (.func gf) lb, args := #[.func (.yield (w.heap.size + 1)) #[] #[]] }, W1, gf,
    #[.func (.yield (w.heap.size + 1)) #[] #[]] ++ lb, W1, ?_, ?_, ?_, ?_, fun h => (by cases h), ?_⟩
  · rw [← hW1, hrec]; exact run_enterLoop_outer _ _ _ _ _
  · simp only [resolve, hg]
    simp [go_sem]
  · intro f' hf'; trivial
  · simp [invoke, go_sem, eg]
  · have hown : ∀ (pre : List α) (W : World) (v : Value), (I pre W ∧ W.heap[w.heap.size + 1]? = some (.loop (rec .ready none)) ∧ W.heap[w.heap.size]? = some (.deferred (some []))) →
        (I pre (W.setCell ⟨bs, 0, none⟩ v) ∧ (W.setCell ⟨bs, 0, none⟩ v).heap[w.heap.size + 1]? = some (.loop (rec .ready none)) ∧ (W.setCell ⟨bs, 0, none⟩ v).heap[w.heap.size]? = some (.deferred (some []))) :=
      fun pre W v ⟨h1, h2, h3⟩ => ⟨hIst _ _ _ h1, (Below.heap_setCell _ _ _ _ (by show w.heap.size + 1 ≠ bs; omega)).trans h2, (Below.heap_setCell _ _ _ _ (by show w.heap.size ≠ bs; omega)).trans h3⟩
    refine (hseq (w.heap.size + 1) (fun pre W => I pre W ∧ W.heap[w.heap.size + 1]? = some (.loop (rec .ready none)) ∧ W.heap[w.heap.size]? = some (.deferred (some []))) (fun pre W => Ix pre W ∧ W.heap[w.heap.size + 1]? = some (.loop (rec .done (some .ret))) ∧ W.heap[w.heap.size]? = some (.deferred (some []))) W1 hold hown ?_ (by have h00 := h0 (.deferred (some [])) (.loop (rec .ready none)); rw [hW1] at h00; exact ⟨h00, hL1, hK1⟩)).mono ?_
    · rintro pre x W ⟨hi, hl, hk⟩
      have hlt : w.heap.size + 1 < W.heap.size := (Array.getElem?_eq_some_iff.1 hl).1
      have hy := run_yield (P := P) (args := encs x) hl (by rw [hrec]; exact hps x)
      rw [hrec] at hy
      refine ⟨fn, _, assign, body, hy, roundIn_of_wpIn hfn (hassign _ x W _ ⟨_, run_beginRound hl (by rw [hrec]), ?_⟩)⟩
      have hl2 : (W.putObj (w.heap.size + 1) (.loop { rec .ready none with state := .busy })).heap[w.heap.size + 1]? = some (.loop { rec .ready none with state := .busy }) := World.putObj_heap_same hlt
      have hk2 : (W.putObj (w.heap.size + 1) (.loop { rec .ready none with state := .busy })).heap[w.heap.size]? = some (.deferred (some [])) := (World.putObj_heap_other (by omega)).trans hk
      have hs2 : (W.putObj (w.heap.size + 1) (.loop { rec .ready none with state := .busy })).heap.size = W.heap.size := World.putObj_size
      refine wpIn_mono (hbody _ pre x _ (hIput _ _ _ _ (by omega) hi) (by rw [hs2]; omega)) ?_
      have fin : ∀ (jump : Option Code) (W3 : World), (∀ k, w.heap.size ≤ k → k < (W.putObj (w.heap.size + 1) (.loop { rec .ready none with state := .busy })).heap.size → W3.heap[k]? = (W.putObj (w.heap.size + 1) (.loop { rec .ready none with state := .busy })).heap[k]?) →
          (Instr.endRound (w.heap.size + 1) jump).run P W3 = .ok (.bool jump.isNone) (W3.putObj (w.heap.size + 1) (.loop (rec (if jump.isNone then .ready else .done) jump))) ∧
          (W3.putObj (w.heap.size + 1) (.loop (rec (if jump.isNone then .ready else .done) jump))).heap[w.heap.size + 1]? = some (.loop (rec (if jump.isNone then .ready else .done) jump)) ∧
          (W3.putObj (w.heap.size + 1) (.loop (rec (if jump.isNone then .ready else .done) jump))).heap[w.heap.size]? = some (.deferred (some [])) := fun jump W3 hk3 => by
        have hl3 := (hk3 (w.heap.size + 1) (by omega) (by rw [hs2]; omega)).trans hl2
        have := run_endRound (P := P) jump hl3
        rw [hrec] at this ⊢
        exact ⟨this, World.putObj_heap_same (Array.getElem?_eq_some_iff.1 hl3).1, (World.putObj_heap_other (by omega)).trans ((hk3 w.heap.size (Nat.le_refl _) (by rw [hs2]; omega)).trans hk2)⟩
      rintro e a3 W3 hp
      cases e with
      | normal =>
        obtain ⟨hk3, hb3, hi3⟩ := hp
        obtain ⟨hr, hl4, hk4⟩ := fin none W3 hk3
        exact ⟨_, _, hr, .inl ⟨rfl, ⟨hIput _ _ _ _ (by omega) hi3, hl4, hk4⟩, below_put ((below_put (Below.refl _ W) (by omega) _).trans hb3) (by omega) _⟩⟩
      | ret =>
        obtain ⟨hk3, hi3⟩ := hp
        obtain ⟨hr, hl4, hk4⟩ := fin (some .ret) W3 hk3
        exact ⟨_, _, hr, .inr ⟨rfl, hXput _ _ _ _ (by omega) hi3, hl4, hk4⟩⟩
      | exit id => exact hp.elim
      | goto t => exact hp.elim
      | panic ch => exact hp.elim
      | outgrown => exact hp.elim
    · rintro e W2 ⟨⟨v, rfl⟩, (⟨hi, hl, hk⟩ | ⟨pre, hpre, hi, hl, hk⟩)⟩
      · exact ⟨none, _, by have := run_endLoop (P := P) hl (by rw [hrec]; simp); rw [hrec] at this; exact this, hdone _ (hIput _ _ _ _ (by omega) hi) ((World.putObj_heap_other (by omega)).trans hk)⟩
      · exact ⟨some .ret, _, by have := run_endLoop (P := P) hl (by rw [hrec]; simp); rw [hrec] at this; exact this, hstop pre _ hpre (hXput _ _ _ _ (by omega) hi) ((World.putObj_heap_other (by omega)).trans hk)⟩
end Go.Proofs.YtjajoiahgfafgaaGreatDoor
end
