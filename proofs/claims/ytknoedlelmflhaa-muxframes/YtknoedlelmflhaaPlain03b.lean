/- Plain laws of what is written and read back: whole, cut short, one way. No program in sight. -/
import Derived.Test.YtknoedlelmflhaaCode6
namespace Go.Proofs.Ytknoedlelmflhaa.Plain
open Go.RowKit

def numsB (l : List Int) : List UInt8 := l.flatMap fun n => if 0 ≤ n then numB n.toNat else []
def textsB (l : List (List UInt8)) : List UInt8 := l.flatMap textB
def flagsB (l : List Bool) : List UInt8 := l.flatMap flagB

theorem numB_length (n : Nat) : (numB n).length ≤ 9 := numF_length 9 n
theorem numsB_snoc {l : List Int} {k : Nat} (h : k < l.length) : numsB (l.take (k + 1)) = numsB (l.take k) ++ (if 0 ≤ l[k] then numB l[k].toNat else []) := by
  rw [List.take_succ_eq_append_getElem h, numsB, List.flatMap_append]; simp [numsB]
theorem textsB_snoc {l : List (List UInt8)} {k : Nat} (h : k < l.length) : textsB (l.take (k + 1)) = textsB (l.take k) ++ textB l[k] := by
  rw [List.take_succ_eq_append_getElem h, textsB, List.flatMap_append]; simp [textsB]
theorem flagsB_snoc {l : List Bool} {k : Nat} (h : k < l.length) : flagsB (l.take (k + 1)) = flagsB (l.take k) ++ flagB l[k] := by
  rw [List.take_succ_eq_append_getElem h, flagsB, List.flatMap_append]; simp [flagsB]
theorem numsB_drop {l : List Int} {k : Nat} (h : k < l.length) : numsB (l.drop k) = (if 0 ≤ l[k] then numB l[k].toNat else []) ++ numsB (l.drop (k + 1)) := by
  rw [← List.getElem_cons_drop h, numsB, List.flatMap_cons]; rfl
theorem textsB_drop {l : List (List UInt8)} {k : Nat} (h : k < l.length) : textsB (l.drop k) = textB l[k] ++ textsB (l.drop (k + 1)) := by
  rw [← List.getElem_cons_drop h, textsB, List.flatMap_cons]; rfl
theorem flagsB_drop {l : List Bool} {k : Nat} (h : k < l.length) : flagsB (l.drop k) = flagB l[k] ++ flagsB (l.drop (k + 1)) := by
  rw [← List.getElem_cons_drop h, flagsB, List.flatMap_cons]; rfl
theorem numsB_le (l : List Int) : (numsB l).length ≤ 9 * l.length := by
  induction l with
  | nil => simp [numsB]
  | cons n l ih =>
    have : numsB (n :: l) = (if 0 ≤ n then numB n.toNat else []) ++ numsB l := by simp [numsB]
    rw [this, List.length_append, List.length_cons]
    have h2 := numB_length n.toNat
    split
    · omega
    · simp; omega
def wt (l : List (List UInt8)) : Nat := (l.map fun s => s.length + 1).sum
theorem textB_length (t : List UInt8) : (textB t).length ≤ 9 + t.length := by
  have := numB_length t.length
  simp [textB]; omega
theorem textsB_le (l : List (List UInt8)) : (textsB l).length ≤ 9 * wt l := by
  induction l with
  | nil => simp [textsB]
  | cons t l ih =>
    have : textsB (t :: l) = textB t ++ textsB l := by simp [textsB]
    rw [this, List.length_append]
    have h2 := textB_length t
    simp only [wt, List.map_cons, List.sum_cons] at ih ⊢
    omega
theorem flagsB_le (l : List Bool) : (flagsB l).length ≤ l.length := by
  induction l with
  | nil => simp [flagsB]
  | cons t l ih =>
    have : flagsB (t :: l) = flagB t ++ flagsB l := by simp [flagsB]
    rw [this, List.length_append, List.length_cons]
    have : (flagB t).length = 1 := by cases t <;> rfl
    omega
theorem wt_take (l : List (List UInt8)) (k : Nat) : wt (l.take k) ≤ wt l := by
  have := List.take_append_drop k l
  conv => rhs; rw [← this]
  simp only [wt, List.map_append, List.sum_append]; omega

theorem take_append_ge {α : Type} {a b : List α} {c : Nat} (h : a.length ≤ c) : (a ++ b).take c = a ++ b.take (c - a.length) := by
  rw [List.take_append, List.take_of_length_le h]
theorem take_append_lt {α : Type} {a b : List α} {c : Nat} (h : c ≤ a.length) : (a ++ b).take c = a.take c := by
  rw [List.take_append, show c - a.length = 0 by omega]; simp

/-- What is cut short is read: a fault, or R, cut short, is left. -/
def Cut (R : List UInt8) (st : St) : Prop := st.2 = 30 ∨ (st.2 = 0 ∧ ∃ c, c < R.length ∧ st.1 = R.take c)

theorem endR_30 {s : List UInt8} : endR (s, 30) = 30 := rfl
theorem cut_end {st : St} (h : Cut [] st) : endR st = 30 := by
  rcases h with h | ⟨_, c, hc, _⟩
  · simp [endR, h]
  · simp at hc
theorem cut_num {n : Nat} {R : List UInt8} {st : St} (hn : n < 9223372036854775808) (h : Cut (numB n ++ R) st) : Cut R (takeR passNum st).2 ∧ ((takeR passNum st).1 = n ∨ endR (takeR passNum st).2 = 30) := by
  obtain ⟨s, f⟩ := st
  rcases h with h | ⟨h, c, hc, hs⟩
  · simp only at h; subst h
    rw [takeR_bad (by omega)]
    exact ⟨.inl rfl, .inr rfl⟩
  · simp only at h hs; subst h hs
    rcases Nat.lt_or_ge c (numB n).length with hl | hl
    · rw [take_append_lt (by omega), takeR_num (numR_short hl) (by omega)]
      exact ⟨.inl rfl, .inr rfl⟩
    · rw [take_append_ge hl, takeR_ok (numR_numB hn _) rfl]
      refine ⟨.inr ⟨rfl, c - (numB n).length, ?_, rfl⟩, .inl rfl⟩
      rw [List.length_append] at hc; omega
theorem cut_text {t R : List UInt8} {st : St} (hn : t.length < 9223372036854775808) (h : Cut (textB t ++ R) st) :
    Cut R (takeR (passText t.length) st).2 ∧ (textR t.length st = t ∨ endR (takeR (passText t.length) st).2 = 30) := by
  obtain ⟨s, f⟩ := st
  rcases h with h | ⟨h, c, hc, hs⟩
  · simp only at h; subst h
    rw [takeR_bad (by omega)]
    exact ⟨.inl rfl, .inr rfl⟩
  · simp only at h hs; subst h hs
    unfold textB at hc ⊢
    rw [List.append_assoc] at hc ⊢
    rcases Nat.lt_or_ge c (numB t.length).length with hl | hl
    · rw [take_append_lt (by omega), takeR_num (numR_short hl) (by omega)]
      exact ⟨.inl rfl, .inr rfl⟩
    · rw [take_append_ge hl]
      have hnr := numR_numB hn ((t ++ R).take (c - (numB t.length).length))
      rw [List.length_append, List.length_append] at hc
      rcases Nat.lt_or_ge (c - (numB t.length).length) t.length with hl2 | hl2
      · rw [take_append_lt (by omega)] at hnr ⊢
        rw [takeR_pass hnr (r2 := []) (e := 30) (by unfold passText; rw [if_neg (by omega), if_pos (by rw [List.length_take]; omega)]) (by omega)]
        exact ⟨.inl rfl, .inr rfl⟩
      · rw [take_append_ge hl2] at hnr ⊢
        have hp : passText (t.length : Int) t.length (t ++ R.take (c - (numB t.length).length - t.length)) = (R.take (c - (numB t.length).length - t.length), 0) := by
          unfold passText
          rw [if_neg (by omega), if_neg (by rw [List.length_append]; omega)]; simp
        rw [takeR_ok hnr hp]
        refine ⟨.inr ⟨rfl, c - (numB t.length).length - t.length, by omega, rfl⟩, .inl ?_⟩
        simp [textR, hnr, hp]

theorem back_num {n : Nat} (hn : n < 9223372036854775808) (R : List UInt8) : takeR passNum (numB n ++ R, 0) = (n, (R, 0)) := takeR_ok (numR_numB hn _) rfl
theorem pass_text (t R : List UInt8) : passText (t.length : Int) t.length (t ++ R) = (R, 0) := by
  unfold passText
  rw [if_neg (by omega), if_neg (by rw [List.length_append]; omega)]; simp
theorem back_text {t : List UInt8} (hn : t.length < 9223372036854775808) (R : List UInt8) : takeR (passText t.length) (textB t ++ R, 0) = (t.length, (R, 0)) := by
  unfold textB
  rw [List.append_assoc]
  exact takeR_ok (numR_numB hn _) (pass_text t R)
theorem back_textR {t : List UInt8} (hn : t.length < 9223372036854775808) (R : List UInt8) : textR t.length (textB t ++ R, 0) = t := by
  unfold textB
  rw [List.append_assoc]
  simp [textR, numR_numB hn, pass_text]
theorem back_flag (b : Bool) (R : List UInt8) : flagR (flagB b ++ R, 0) = (b, (R, 0)) := by
  cases b <;> rfl
end Go.Proofs.Ytknoedlelmflhaa.Plain
