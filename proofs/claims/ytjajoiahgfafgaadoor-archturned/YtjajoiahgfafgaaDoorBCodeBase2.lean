/- Texts joined: Code6, Plain03b, Plain03c, CodeBase. -/
import Derived.Test.YtjajoiahgfafgaaDoorBCodeBase1
set_option linter.unusedSimpArgs false
set_option linter.unusedVariables false

/- What is left of a reader's bytes, and its fault; a new reader; what is written; and what all laws of chapter 3 ask first. -/
section
namespace Go.Proofs.YtjajoiahgfafgaaDoor
open Go.RowKit Plain

set_option maxRecDepth 100000 in
set_option maxHeartbeats 400000 in
theorem bEnd_any (br bb : Nat) (s : List UInt8) (f : Nat) (w : World) (h : Rd br bb (s, f) w) : Calls Tryd.prog 37 #[.pointer (some ⟨bb, 0, none⟩)] w (Ret w (.int .i64 (endR (s, f) : Nat))) := by
  obtain ⟨d, d0, d1, g0, g1⟩ := h.facts
  by_cases hf : f = 0
  · subst hf
    cases s with
    | nil =>
      go_enter Tryd.func37, Tryd.ntmps37
      go_wp2_with (fail)
      go_ret
      exact ⟨rfl, Below.refl _ _⟩
    | cons c r =>
      have he : endR (c :: r, 0) = 32 := by simp [endR]
      rw [he]
      clear he
      go_enter Tryd.func37, Tryd.ntmps37
      go_wp2_with (fail)
      go_ret
      exact ⟨rfl, Below.refl _ _⟩
  · have he : endR (s, f) = f := by simp [endR, hf]
    have he2 : ((f : Int) == 0) = false := by simpa using hf
    rw [he]
    clear he
    go_enter Tryd.func37, Tryd.ntmps37
    go_wp2_with (fail)
    go_ret
    exact ⟨rfl, Below.refl _ _⟩
set_option maxRecDepth 100000 in
set_option maxHeartbeats 400000 in
theorem REnd_any (br bb : Nat) (s : List UInt8) (f : Nat) (w : World) (h : Rd br bb (s, f) w) : Calls Tryd.prog 20 #[.pointer (some ⟨br, 0, none⟩)] w (Ret w (.int .i64 (endR (s, f) : Nat))) := by
  obtain ⟨d, d0, d1, g0, g1⟩ := h.facts
  have hE := bEnd_any br bb s f w h
  generalize endR (s, f) = e at *
  go_enter Tryd.func20, Tryd.ntmps20
  go_wp2_with (fail)
  refine hE.mono ?_
  rintro _ w1 ⟨rfl, hb1⟩
  go_wp2_with (fail)
  go_ret
  exact ⟨rfl, hb1⟩
set_option maxRecDepth 100000 in
set_option maxHeartbeats 400000 in
theorem New_any (s : List UInt8) (w : World) (hs : s.length ≤ 140737488355328) :
    Calls Tryd.prog 16 #[.string ⟨s.toArray⟩] w fun e w' => e = .returned (.pointer (some ⟨w.heap.size + 1, 0, none⟩)) ∧ (Rd (w.heap.size + 1) w.heap.size (s, 0) w' ∧ Below w.heap.size w w') := by
  have hR : Rd (w.heap.size + 1) w.heap.size (s, 0) ((w.alloc (.cells #[.string ⟨s.toArray⟩, .int .i64 0] 76)).alloc (.cells #[.pointer (some ⟨w.heap.size, 0, none⟩)] 78)) := by
    refine ⟨by omega, ?_, ?_, hs⟩
    · simpa using heap_alloc_new (w.alloc (.cells #[.string ⟨s.toArray⟩, .int .i64 0] 76)) (.cells #[.pointer (some ⟨w.heap.size, 0, none⟩)] 78)
    · exact (Below.heap_alloc _ _ _ (by simp)).trans (heap_alloc_new w _)
  have HR := Lib.hid hR
  clear hR
  go_enter Tryd.func16, Tryd.ntmps16
  go_wp2_with (fail)
  go_ret
  exact ⟨rfl, HR.out, ((Below.refl w.heap.size w).alloc (Nat.le_refl _) _).alloc (by simp) _⟩

def textB (s : List UInt8) : List UInt8 := numB s.length ++ s
set_option maxRecDepth 100000 in
set_option maxHeartbeats 400000 in
theorem CText_any (s : List UInt8) (w : World) (hs : s.length ≤ 140737488355328) : Calls Tryd.prog 28 #[.string ⟨s.toArray⟩] w (Ret w (.string ⟨(textB s).toArray⟩)) := by
  have hl : (numB s.length).length ≤ 9 := numF_length 9 _
  go_enter Tryd.func28, Tryd.ntmps28
  go_wp2_with (fail)
  refine (Ret.quiet (Below.refl _ _) (Num_any s.length _ (by omega))).mono ?_
  rintro e w1 ⟨rfl, hb1⟩
  go_wp2_with (fail)
  go_ret
  exact ⟨rfl, hb1⟩
def flagB (b : Bool) : List UInt8 := if b then [1] else [0]

theorem Num_neg (n : Int) (w : World) (h : n < 0) : Calls Tryd.prog 29 #[.int .i64 n] w (Ret w (.string ⟨#[]⟩)) := by
  go_enter Tryd.func29, Tryd.ntmps29
  go_wp2_with (fail)
  go_ret
  exact ⟨rfl, Below.refl _ _⟩

end Go.Proofs.YtjajoiahgfafgaaDoor
end

/- Plain laws of what is written and read back: whole, cut short, one way. No program in sight. -/
section
namespace Go.Proofs.YtjajoiahgfafgaaDoor.Plain
open Go.RowKit

def numsB (l : List Int) : List UInt8 := l.flatMap fun n => if 0 ≤ n then numB n.toNat else []
def textsB (l : List (List UInt8)) : List UInt8 := l.flatMap textB
def flagsB (l : List Bool) : List UInt8 := l.flatMap flagB

theorem numB_length (n : Nat) : (numB n).length ≤ 9 := numF_length 9 n
theorem numsB_snoc {l : List Int} {k : Nat} (h : k < l.length) : numsB (l.take (k + 1)) = numsB (l.take k) ++ (if 0 ≤ l[k] then numB l[k].toNat else []) := by
  rw [List.take_succ_eq_append_getElem h, numsB, List.flatMap_append]; simp [numsB]
theorem textsB_snoc {l : List (List UInt8)} {k : Nat} (h : k < l.length) : textsB (l.take (k + 1)) = textsB (l.take k) ++ textB l[k] := by
  rw [List.take_succ_eq_append_getElem h, textsB, List.flatMap_append]; simp [textsB]
theorem flagsB_snoc {l : List Bool} {k : Nat} (h : k < l.length) : flagsB (l.take (k + 1)) = flagsB (l.take k) ++ flagB l[k] := by
  rw [List.take_succ_eq_append_getElem h, flagsB, List.flatMap_append]; simp [flagsB]
theorem numsB_drop {l : List Int} {k : Nat} (h : k < l.length) : numsB (l.drop k) = (if 0 ≤ l[k] then numB l[k].toNat else []) ++ numsB (l.drop (k + 1)) := by
  rw [← List.getElem_cons_drop h, numsB, List.flatMap_cons]; rfl
theorem textsB_drop {l : List (List UInt8)} {k : Nat} (h : k < l.length) : textsB (l.drop k) = textB l[k] ++ textsB (l.drop (k + 1)) := by
  rw [← List.getElem_cons_drop h, textsB, List.flatMap_cons]; rfl
theorem flagsB_drop {l : List Bool} {k : Nat} (h : k < l.length) : flagsB (l.drop k) = flagB l[k] ++ flagsB (l.drop (k + 1)) := by
  rw [← List.getElem_cons_drop h, flagsB, List.flatMap_cons]; rfl
theorem numsB_le (l : List Int) : (numsB l).length ≤ 9 * l.length := by
  induction l with
  | nil => simp [numsB]
  | cons n l ih =>
    have : numsB (n :: l) = (if 0 ≤ n then numB n.toNat else []) ++ numsB l := by simp [numsB]
    rw [this, List.length_append, List.length_cons]
    have h2 := numB_length n.toNat
    split
    · omega
    · simp; omega
def wt (l : List (List UInt8)) : Nat := (l.map fun s => s.length + 1).sum
theorem textB_length (t : List UInt8) : (textB t).length ≤ 9 + t.length := by
  have := numB_length t.length
  simp [textB]; omega
theorem textsB_le (l : List (List UInt8)) : (textsB l).length ≤ 9 * wt l := by
  induction l with
  | nil => simp [textsB]
  | cons t l ih =>
    have : textsB (t :: l) = textB t ++ textsB l := by simp [textsB]
    rw [this, List.length_append]
    have h2 := textB_length t
    simp only [wt, List.map_cons, List.sum_cons] at ih ⊢
    omega
theorem flagsB_le (l : List Bool) : (flagsB l).length ≤ l.length := by
  induction l with
  | nil => simp [flagsB]
  | cons t l ih =>
    have : flagsB (t :: l) = flagB t ++ flagsB l := by simp [flagsB]
    rw [this, List.length_append, List.length_cons]
    have : (flagB t).length = 1 := by cases t <;> rfl
    omega
theorem wt_take (l : List (List UInt8)) (k : Nat) : wt (l.take k) ≤ wt l := by
  have := List.take_append_drop k l
  conv => rhs; rw [← this]
  simp only [wt, List.map_append, List.sum_append]; omega

theorem take_append_ge {α : Type} {a b : List α} {c : Nat} (h : a.length ≤ c) : (a ++ b).take c = a ++ b.take (c - a.length) := by
  rw [List.take_append, List.take_of_length_le h]
theorem take_append_lt {α : Type} {a b : List α} {c : Nat} (h : c ≤ a.length) : (a ++ b).take c = a.take c := by
  rw [List.take_append, show c - a.length = 0 by omega]; simp

/-- What is cut short is read: a fault, or R, cut short, is left. -/
def Cut (R : List UInt8) (st : St) : Prop := st.2 = 30 ∨ (st.2 = 0 ∧ ∃ c, c < R.length ∧ st.1 = R.take c)

theorem endR_30 {s : List UInt8} : endR (s, 30) = 30 := rfl
theorem cut_end {st : St} (h : Cut [] st) : endR st = 30 := by
  rcases h with h | ⟨_, c, hc, _⟩
  · simp [endR, h]
  · simp at hc
theorem cut_num {n : Nat} {R : List UInt8} {st : St} (hn : n < 9223372036854775808) (h : Cut (numB n ++ R) st) : Cut R (takeR passNum st).2 ∧ ((takeR passNum st).1 = n ∨ endR (takeR passNum st).2 = 30) := by
  obtain ⟨s, f⟩ := st
  rcases h with h | ⟨h, c, hc, hs⟩
  · simp only at h; subst h
    rw [takeR_bad (by omega)]
    exact ⟨.inl rfl, .inr rfl⟩
  · simp only at h hs; subst h hs
    rcases Nat.lt_or_ge c (numB n).length with hl | hl
    · rw [take_append_lt (by omega), takeR_num (numR_short hl) (by omega)]
      exact ⟨.inl rfl, .inr rfl⟩
    · rw [take_append_ge hl, takeR_ok (numR_numB hn _) rfl]
      refine ⟨.inr ⟨rfl, c - (numB n).length, ?_, rfl⟩, .inl rfl⟩
      rw [List.length_append] at hc; omega
theorem cut_text {t R : List UInt8} {st : St} (hn : t.length < 9223372036854775808) (h : Cut (textB t ++ R) st) :
    Cut R (takeR (passText t.length) st).2 ∧ (textR t.length st = t ∨ endR (takeR (passText t.length) st).2 = 30) := by
  obtain ⟨s, f⟩ := st
  rcases h with h | ⟨h, c, hc, hs⟩
  · simp only at h; subst h
    rw [takeR_bad (by omega)]
    exact ⟨.inl rfl, .inr rfl⟩
  · simp only at h hs; subst h hs
    unfold textB at hc ⊢
    rw [List.append_assoc] at hc ⊢
    rcases Nat.lt_or_ge c (numB t.length).length with hl | hl
    · rw [take_append_lt (by omega), takeR_num (numR_short hl) (by omega)]
      exact ⟨.inl rfl, .inr rfl⟩
    · rw [take_append_ge hl]
      have hnr := numR_numB hn ((t ++ R).take (c - (numB t.length).length))
      rw [List.length_append, List.length_append] at hc
      rcases Nat.lt_or_ge (c - (numB t.length).length) t.length with hl2 | hl2
      · rw [take_append_lt (by omega)] at hnr ⊢
        rw [takeR_pass hnr (r2 := []) (e := 30) (by unfold passText; rw [if_neg (by omega), if_pos (by rw [List.length_take]; omega)]) (by omega)]
        exact ⟨.inl rfl, .inr rfl⟩
      · rw [take_append_ge hl2] at hnr ⊢
        have hp : passText (t.length : Int) t.length (t ++ R.take (c - (numB t.length).length - t.length)) = (R.take (c - (numB t.length).length - t.length), 0) := by
          unfold passText
          rw [if_neg (by omega), if_neg (by rw [List.length_append]; omega)]; simp
        rw [takeR_ok hnr hp]
        refine ⟨.inr ⟨rfl, c - (numB t.length).length - t.length, by omega, rfl⟩, .inl ?_⟩
        simp [textR, hnr, hp]

theorem back_num {n : Nat} (hn : n < 9223372036854775808) (R : List UInt8) : takeR passNum (numB n ++ R, 0) = (n, (R, 0)) := takeR_ok (numR_numB hn _) rfl
theorem pass_text (t R : List UInt8) : passText (t.length : Int) t.length (t ++ R) = (R, 0) := by
  unfold passText
  rw [if_neg (by omega), if_neg (by rw [List.length_append]; omega)]; simp
theorem back_text {t : List UInt8} (hn : t.length < 9223372036854775808) (R : List UInt8) : takeR (passText t.length) (textB t ++ R, 0) = (t.length, (R, 0)) := by
  unfold textB
  rw [List.append_assoc]
  exact takeR_ok (numR_numB hn _) (pass_text t R)
theorem back_textR {t : List UInt8} (hn : t.length < 9223372036854775808) (R : List UInt8) : textR t.length (textB t ++ R, 0) = t := by
  unfold textB
  rw [List.append_assoc]
  simp [textR, numR_numB hn, pass_text]
theorem back_flag (b : Bool) (R : List UInt8) : flagR (flagB b ++ R, 0) = (b, (R, 0)) := by
  cases b <;> rfl
end Go.Proofs.YtjajoiahgfafgaaDoor.Plain
end

/- Plain laws of what is read and written back. No program in sight. -/
section
namespace Go.Proofs.YtjajoiahgfafgaaDoor.Plain
open Go.RowKit

/-- A call has read: a fault, and nothing is gone; or w is gone. -/
def StepR (s w : List UInt8) (st : St) : Prop := (st.2 ≠ 0 ∧ st.1 = s) ∨ (st.2 = 0 ∧ s = w ++ st.1 ∧ 1 ≤ w.length)

theorem numB_pos (n : Nat) : 1 ≤ (numB n).length := by
  unfold numB numF; split <;> simp
theorem takeR_cases (pass : Nat → List UInt8 → List UInt8 × Nat) (s : List UInt8) :
    (∃ e, e ≠ 0 ∧ takeR pass (s, 0) = (0, (s, e))) ∨ ∃ n rest r2, numR s = (n, rest, 0) ∧ pass n rest = (r2, 0) ∧ takeR pass (s, 0) = (n, (r2, 0)) := by
  rcases hnr : numR s with ⟨n, rest, e⟩
  by_cases he : e = 0
  · subst he
    rcases hps : pass n rest with ⟨r2, e2⟩
    by_cases he2 : e2 = 0
    · subst he2
      exact .inr ⟨n, rest, r2, rfl, hps, takeR_ok hnr hps⟩
    · exact .inl ⟨e2, he2, takeR_pass hnr hps he2⟩
  · exact .inl ⟨e, he, takeR_num hnr he⟩
theorem step_num (s : List UInt8) : StepR s (numB (takeR passNum (s, 0)).1) (takeR passNum (s, 0)).2 ∧ (takeR passNum (s, 0)).1 < 9223372036854775808 := by
  rcases takeR_cases passNum s with ⟨e, he, h⟩ | ⟨n, rest, r2, h1, h2, h⟩
  · rw [h]; exact ⟨.inl ⟨he, rfl⟩, by simp⟩
  · rw [h]
    have hb := numR_back h1
    simp only [passNum, Prod.mk.injEq, and_true] at h2
    subst h2
    exact ⟨.inr ⟨rfl, hb.1, numB_pos _⟩, hb.2⟩
theorem step_count (most least : Int) (s : List UInt8) : StepR s (numB (takeR (passCount most least) (s, 0)).1) (takeR (passCount most least) (s, 0)).2 ∧ (takeR (passCount most least) (s, 0)).1 < 9223372036854775808 := by
  rcases takeR_cases (passCount most least) s with ⟨e, he, h⟩ | ⟨n, rest, r2, h1, h2, h⟩
  · rw [h]; exact ⟨.inl ⟨he, rfl⟩, by simp⟩
  · rw [h]
    have hb := numR_back h1
    have : r2 = rest := by
      unfold passCount at h2
      split at h2
      · simp at h2
      · split at h2
        · simp at h2
        · simpa using h2.symm
    subst this
    exact ⟨.inr ⟨rfl, hb.1, numB_pos _⟩, hb.2⟩
theorem step_text (most : Int) (s : List UInt8) : StepR s (textB (textR most (s, 0))) (takeR (passText most) (s, 0)).2 ∧ (textR most (s, 0)).length ≤ s.length := by
  rcases hnr : numR s with ⟨n, rest, e⟩
  by_cases he : e = 0
  · subst he
    rcases hps : passText most n rest with ⟨r2, e2⟩
    by_cases he2 : e2 = 0
    · subst he2
      have hb := numR_back hnr
      have ht : textR most (s, 0) = rest.take n := by simp [textR, hnr, hps]
      rw [takeR_ok hnr hps, ht]
      have h3 : n ≤ rest.length ∧ r2 = rest.drop n := by
        unfold passText at hps
        split at hps
        · simp at hps
        · split at hps
          · simp at hps
          · exact ⟨by omega, by simpa using hps.symm⟩
      refine ⟨.inr ⟨rfl, ?_, ?_⟩, ?_⟩
      · unfold textB
        rw [List.length_take, Nat.min_eq_left h3.1, List.append_assoc, h3.2, List.take_append_drop]
        exact hb.1
      · have := numB_pos (rest.take n).length
        unfold textB; rw [List.length_append]; omega
      · rw [hb.1]; simp; omega
    · have ht : textR most (s, 0) = [] := by simp [textR, hnr, hps, he2]
      rw [takeR_pass hnr hps he2, ht]
      exact ⟨.inl ⟨he2, rfl⟩, by simp⟩
  · have ht : textR most (s, 0) = [] := by simp [textR, hnr, he]
    rw [takeR_num hnr he, ht]
    exact ⟨.inl ⟨he, rfl⟩, by simp⟩
theorem step_flag (s : List UInt8) : StepR s (flagB (flagR (s, 0)).1) (flagR (s, 0)).2 := by
  unfold flagR
  simp only [ne_eq, not_true_eq_false, if_false]
  cases s with
  | nil => exact .inl ⟨by simp, rfl⟩
  | cons c r =>
    by_cases h : 1 < c.toNat
    · simp only [if_pos h]; exact .inl ⟨by simp, rfl⟩
    · simp only [if_neg h]
      refine .inr ⟨rfl, ?_, by cases decide (c.toNat = 1) <;> simp [flagB]⟩
      have hc : c = UInt8.ofNat c.toNat := UInt8.ofNat_toNat.symm
      rcases (by omega : c.toNat = 0 ∨ c.toNat = 1) with h0 | h0
      · rw [h0] at hc; subst hc; rfl
      · rw [h0] at hc; subst hc; rfl
end Go.Proofs.YtjajoiahgfafgaaDoor.Plain
end

/- The texts on numbers and readers, ahead of the others. -/
section
set_option linter.unusedVariables false
namespace Go.Proofs.YtjajoiahgfafgaaDoor
end Go.Proofs.YtjajoiahgfafgaaDoor
end
