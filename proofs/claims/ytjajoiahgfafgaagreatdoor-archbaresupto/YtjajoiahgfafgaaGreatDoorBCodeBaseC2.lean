/- Texts joined: Code6, Plain03b, Plain03c, RefReader, RefCount, CodeRef, CodeBaseC. -/
import Derived.Test.YtjajoiahgfafgaaGreatDoorBCodeBaseC1
import Derived.Deep.RegionWith
set_option linter.unusedSimpArgs false
set_option linter.unusedVariables false

/- What is left of a reader's bytes, and its fault; a new reader; what is written; and what all laws of chapter 3 ask first. -/
section
namespace Go.Proofs.YtjajoiahgfafgaaGreatDoor
open Go.RowKit Plain

set_option maxRecDepth 100000 in
set_option maxHeartbeats 400000 in
theorem bEnd_any (br bb : Nat) (s : List UInt8) (f : Nat) (w : World) (h : Rd br bb (s, f) w) : Calls Tryz.prog 60 #[.pointer (some ⟨bb, 0, none⟩)] w (Ret w (.int .i64 (endR (s, f) : Nat))) := by
  obtain ⟨d, d0, d1, g0, g1⟩ := h.facts
  by_cases hf : f = 0
  · subst hf
    cases s with
    | nil =>
      go_enter Tryz.func60, Tryz.ntmps60
      go_wp2_with (fail)
      go_ret
      exact ⟨rfl, Below.refl _ _⟩
    | cons c r =>
      have he : endR (c :: r, 0) = 32 := by simp [endR]
      rw [he]
      clear he
      go_enter Tryz.func60, Tryz.ntmps60
      go_wp2_with (fail)
      go_ret
      exact ⟨rfl, Below.refl _ _⟩
  · have he : endR (s, f) = f := by simp [endR, hf]
    have he2 : ((f : Int) == 0) = false := by simpa using hf
    rw [he]
    clear he
    go_enter Tryz.func60, Tryz.ntmps60
    go_wp2_with (fail)
    go_ret
    exact ⟨rfl, Below.refl _ _⟩
set_option maxRecDepth 100000 in
set_option maxHeartbeats 400000 in
theorem REnd_any (br bb : Nat) (s : List UInt8) (f : Nat) (w : World) (h : Rd br bb (s, f) w) : Calls Tryz.prog 28 #[.pointer (some ⟨br, 0, none⟩)] w (Ret w (.int .i64 (endR (s, f) : Nat))) := by
  obtain ⟨d, d0, d1, g0, g1⟩ := h.facts
  have hE := bEnd_any br bb s f w h
  generalize endR (s, f) = e at *
  go_enter Tryz.func28, Tryz.ntmps28
  go_wp2_with (fail)
  refine hE.mono ?_
  rintro _ w1 ⟨rfl, hb1⟩
  go_wp2_with (fail)
  go_ret
  exact ⟨rfl, hb1⟩
set_option maxRecDepth 100000 in
set_option maxHeartbeats 400000 in
theorem New_any (s : List UInt8) (w : World) (hs : s.length ≤ 140737488355328) :
    Calls Tryz.prog 24 #[.string ⟨s.toArray⟩] w fun e w' => e = .returned (.pointer (some ⟨w.heap.size + 1, 0, none⟩)) ∧ (Rd (w.heap.size + 1) w.heap.size (s, 0) w' ∧ Below w.heap.size w w') := by
  have hR : Rd (w.heap.size + 1) w.heap.size (s, 0) ((w.alloc (.cells #[.string ⟨s.toArray⟩, .int .i64 0] 83)).alloc (.cells #[.pointer (some ⟨w.heap.size, 0, none⟩)] 85)) := by
    refine ⟨by omega, ?_, ?_, hs⟩
    · simpa using heap_alloc_new (w.alloc (.cells #[.string ⟨s.toArray⟩, .int .i64 0] 83)) (.cells #[.pointer (some ⟨w.heap.size, 0, none⟩)] 85)
    · exact (Below.heap_alloc _ _ _ (by simp)).trans (heap_alloc_new w _)
  have HR := Lib.hid hR
  clear hR
  go_enter Tryz.func24, Tryz.ntmps24
  go_wp2_with (fail)
  go_ret
  exact ⟨rfl, HR.out, ((Below.refl w.heap.size w).alloc (Nat.le_refl _) _).alloc (by simp) _⟩

def textB (s : List UInt8) : List UInt8 := numB s.length ++ s
set_option maxRecDepth 100000 in
set_option maxHeartbeats 400000 in
theorem CText_any (s : List UInt8) (w : World) (hs : s.length ≤ 140737488355328) : Calls Tryz.prog 64 #[.string ⟨s.toArray⟩] w (Ret w (.string ⟨(textB s).toArray⟩)) := by
  have hl : (numB s.length).length ≤ 9 := numF_length 9 _
  go_enter Tryz.func64, Tryz.ntmps64
  go_wp2_with (fail)
  refine (Ret.quiet (Below.refl _ _) (Num_any s.length _ (by omega))).mono ?_
  rintro e w1 ⟨rfl, hb1⟩
  go_wp2_with (fail)
  go_ret
  exact ⟨rfl, hb1⟩
def flagB (b : Bool) : List UInt8 := if b then [1] else [0]

theorem Num_neg (n : Int) (w : World) (h : n < 0) : Calls Tryz.prog 65 #[.int .i64 n] w (Ret w (.string ⟨#[]⟩)) := by
  go_enter Tryz.func65, Tryz.ntmps65
  go_wp2_with (fail)
  go_ret
  exact ⟨rfl, Below.refl _ _⟩

end Go.Proofs.YtjajoiahgfafgaaGreatDoor
end

/- Plain laws of what is written and read back: whole, cut short, one way. No program in sight. -/
section
namespace Go.Proofs.YtjajoiahgfafgaaGreatDoor.Plain
open Go.RowKit

def numsB (l : List Int) : List UInt8 := l.flatMap fun n => if 0 ≤ n then numB n.toNat else []
def textsB (l : List (List UInt8)) : List UInt8 := l.flatMap textB
def flagsB (l : List Bool) : List UInt8 := l.flatMap flagB

theorem numB_length (n : Nat) : (numB n).length ≤ 9 := numF_length 9 n
theorem numsB_snoc {l : List Int} {k : Nat} (h : k < l.length) : numsB (l.take (k + 1)) = numsB (l.take k) ++ (if 0 ≤ l[k] then numB l[k].toNat else []) := by
  rw [List.take_succ_eq_append_getElem h, numsB, List.flatMap_append]; simp [numsB]
theorem textsB_snoc {l : List (List UInt8)} {k : Nat} (h : k < l.length) : textsB (l.take (k + 1)) = textsB (l.take k) ++ textB l[k] := by
  rw [List.take_succ_eq_append_getElem h, textsB, List.flatMap_append]; simp [textsB]
theorem flagsB_snoc {l : List Bool} {k : Nat} (h : k < l.length) : flagsB (l.take (k + 1)) = flagsB (l.take k) ++ flagB l[k] := by
  rw [List.take_succ_eq_append_getElem h, flagsB, List.flatMap_append]; simp [flagsB]
theorem numsB_drop {l : List Int} {k : Nat} (h : k < l.length) : numsB (l.drop k) = (if 0 ≤ l[k] then numB l[k].toNat else []) ++ numsB (l.drop (k + 1)) := by
  rw [← List.getElem_cons_drop h, numsB, List.flatMap_cons]; rfl
theorem textsB_drop {l : List (List UInt8)} {k : Nat} (h : k < l.length) : textsB (l.drop k) = textB l[k] ++ textsB (l.drop (k + 1)) := by
  rw [← List.getElem_cons_drop h, textsB, List.flatMap_cons]; rfl
theorem flagsB_drop {l : List Bool} {k : Nat} (h : k < l.length) : flagsB (l.drop k) = flagB l[k] ++ flagsB (l.drop (k + 1)) := by
  rw [← List.getElem_cons_drop h, flagsB, List.flatMap_cons]; rfl
theorem numsB_le (l : List Int) : (numsB l).length ≤ 9 * l.length := by
  induction l with
  | nil => simp [numsB]
  | cons n l ih =>
    have : numsB (n :: l) = (if 0 ≤ n then numB n.toNat else []) ++ numsB l := by simp [numsB]
    rw [this, List.length_append, List.length_cons]
    have h2 := numB_length n.toNat
    split
    · omega
    · simp; omega
def wt (l : List (List UInt8)) : Nat := (l.map fun s => s.length + 1).sum
theorem textB_length (t : List UInt8) : (textB t).length ≤ 9 + t.length := by
  have := numB_length t.length
  simp [textB]; omega
theorem textsB_le (l : List (List UInt8)) : (textsB l).length ≤ 9 * wt l := by
  induction l with
  | nil => simp [textsB]
  | cons t l ih =>
    have : textsB (t :: l) = textB t ++ textsB l := by simp [textsB]
    rw [this, List.length_append]
    have h2 := textB_length t
    simp only [wt, List.map_cons, List.sum_cons] at ih ⊢
    omega
theorem flagsB_le (l : List Bool) : (flagsB l).length ≤ l.length := by
  induction l with
  | nil => simp [flagsB]
  | cons t l ih =>
    have : flagsB (t :: l) = flagB t ++ flagsB l := by simp [flagsB]
    rw [this, List.length_append, List.length_cons]
    have : (flagB t).length = 1 := by cases t <;> rfl
    omega
theorem wt_take (l : List (List UInt8)) (k : Nat) : wt (l.take k) ≤ wt l := by
  have := List.take_append_drop k l
  conv => rhs; rw [← this]
  simp only [wt, List.map_append, List.sum_append]; omega

theorem take_append_ge {α : Type} {a b : List α} {c : Nat} (h : a.length ≤ c) : (a ++ b).take c = a ++ b.take (c - a.length) := by
  rw [List.take_append, List.take_of_length_le h]
theorem take_append_lt {α : Type} {a b : List α} {c : Nat} (h : c ≤ a.length) : (a ++ b).take c = a.take c := by
  rw [List.take_append, show c - a.length = 0 by omega]; simp

/-- What is cut short is read: a fault, or R, cut short, is left. -/
def Cut (R : List UInt8) (st : St) : Prop := st.2 = 30 ∨ (st.2 = 0 ∧ ∃ c, c < R.length ∧ st.1 = R.take c)

theorem endR_30 {s : List UInt8} : endR (s, 30) = 30 := rfl
theorem cut_end {st : St} (h : Cut [] st) : endR st = 30 := by
  rcases h with h | ⟨_, c, hc, _⟩
  · simp [endR, h]
  · simp at hc
theorem cut_num {n : Nat} {R : List UInt8} {st : St} (hn : n < 9223372036854775808) (h : Cut (numB n ++ R) st) : Cut R (takeR passNum st).2 ∧ ((takeR passNum st).1 = n ∨ endR (takeR passNum st).2 = 30) := by
  obtain ⟨s, f⟩ := st
  rcases h with h | ⟨h, c, hc, hs⟩
  · simp only at h; subst h
    rw [takeR_bad (by omega)]
    exact ⟨.inl rfl, .inr rfl⟩
  · simp only at h hs; subst h hs
    rcases Nat.lt_or_ge c (numB n).length with hl | hl
    · rw [take_append_lt (by omega), takeR_num (numR_short hl) (by omega)]
      exact ⟨.inl rfl, .inr rfl⟩
    · rw [take_append_ge hl, takeR_ok (numR_numB hn _) rfl]
      refine ⟨.inr ⟨rfl, c - (numB n).length, ?_, rfl⟩, .inl rfl⟩
      rw [List.length_append] at hc; omega
theorem cut_text {t R : List UInt8} {st : St} (hn : t.length < 9223372036854775808) (h : Cut (textB t ++ R) st) :
    Cut R (takeR (passText t.length) st).2 ∧ (textR t.length st = t ∨ endR (takeR (passText t.length) st).2 = 30) := by
  obtain ⟨s, f⟩ := st
  rcases h with h | ⟨h, c, hc, hs⟩
  · simp only at h; subst h
    rw [takeR_bad (by omega)]
    exact ⟨.inl rfl, .inr rfl⟩
  · simp only at h hs; subst h hs
    unfold textB at hc ⊢
    rw [List.append_assoc] at hc ⊢
    rcases Nat.lt_or_ge c (numB t.length).length with hl | hl
    · rw [take_append_lt (by omega), takeR_num (numR_short hl) (by omega)]
      exact ⟨.inl rfl, .inr rfl⟩
    · rw [take_append_ge hl]
      have hnr := numR_numB hn ((t ++ R).take (c - (numB t.length).length))
      rw [List.length_append, List.length_append] at hc
      rcases Nat.lt_or_ge (c - (numB t.length).length) t.length with hl2 | hl2
      · rw [take_append_lt (by omega)] at hnr ⊢
        rw [takeR_pass hnr (r2 := []) (e := 30) (by unfold passText; rw [if_neg (by omega), if_pos (by rw [List.length_take]; omega)]) (by omega)]
        exact ⟨.inl rfl, .inr rfl⟩
      · rw [take_append_ge hl2] at hnr ⊢
        have hp : passText (t.length : Int) t.length (t ++ R.take (c - (numB t.length).length - t.length)) = (R.take (c - (numB t.length).length - t.length), 0) := by
          unfold passText
          rw [if_neg (by omega), if_neg (by rw [List.length_append]; omega)]; simp
        rw [takeR_ok hnr hp]
        refine ⟨.inr ⟨rfl, c - (numB t.length).length - t.length, by omega, rfl⟩, .inl ?_⟩
        simp [textR, hnr, hp]

theorem back_num {n : Nat} (hn : n < 9223372036854775808) (R : List UInt8) : takeR passNum (numB n ++ R, 0) = (n, (R, 0)) := takeR_ok (numR_numB hn _) rfl
theorem pass_text (t R : List UInt8) : passText (t.length : Int) t.length (t ++ R) = (R, 0) := by
  unfold passText
  rw [if_neg (by omega), if_neg (by rw [List.length_append]; omega)]; simp
theorem back_text {t : List UInt8} (hn : t.length < 9223372036854775808) (R : List UInt8) : takeR (passText t.length) (textB t ++ R, 0) = (t.length, (R, 0)) := by
  unfold textB
  rw [List.append_assoc]
  exact takeR_ok (numR_numB hn _) (pass_text t R)
theorem back_textR {t : List UInt8} (hn : t.length < 9223372036854775808) (R : List UInt8) : textR t.length (textB t ++ R, 0) = t := by
  unfold textB
  rw [List.append_assoc]
  simp [textR, numR_numB hn, pass_text]
theorem back_flag (b : Bool) (R : List UInt8) : flagR (flagB b ++ R, 0) = (b, (R, 0)) := by
  cases b <;> rfl
end Go.Proofs.YtjajoiahgfafgaaGreatDoor.Plain
end

/- Plain laws of what is read and written back. No program in sight. -/
section
namespace Go.Proofs.YtjajoiahgfafgaaGreatDoor.Plain
open Go.RowKit

/-- A call has read: a fault, and nothing is gone; or w is gone. -/
def StepR (s w : List UInt8) (st : St) : Prop := (st.2 ≠ 0 ∧ st.1 = s) ∨ (st.2 = 0 ∧ s = w ++ st.1 ∧ 1 ≤ w.length)

theorem numB_pos (n : Nat) : 1 ≤ (numB n).length := by
  unfold numB numF; split <;> simp
theorem takeR_cases (pass : Nat → List UInt8 → List UInt8 × Nat) (s : List UInt8) :
    (∃ e, e ≠ 0 ∧ takeR pass (s, 0) = (0, (s, e))) ∨ ∃ n rest r2, numR s = (n, rest, 0) ∧ pass n rest = (r2, 0) ∧ takeR pass (s, 0) = (n, (r2, 0)) := by
  rcases hnr : numR s with ⟨n, rest, e⟩
  by_cases he : e = 0
  · subst he
    rcases hps : pass n rest with ⟨r2, e2⟩
    by_cases he2 : e2 = 0
    · subst he2
      exact .inr ⟨n, rest, r2, rfl, hps, takeR_ok hnr hps⟩
    · exact .inl ⟨e2, he2, takeR_pass hnr hps he2⟩
  · exact .inl ⟨e, he, takeR_num hnr he⟩
theorem step_num (s : List UInt8) : StepR s (numB (takeR passNum (s, 0)).1) (takeR passNum (s, 0)).2 ∧ (takeR passNum (s, 0)).1 < 9223372036854775808 := by
  rcases takeR_cases passNum s with ⟨e, he, h⟩ | ⟨n, rest, r2, h1, h2, h⟩
  · rw [h]; exact ⟨.inl ⟨he, rfl⟩, by simp⟩
  · rw [h]
    have hb := numR_back h1
    simp only [passNum, Prod.mk.injEq, and_true] at h2
    subst h2
    exact ⟨.inr ⟨rfl, hb.1, numB_pos _⟩, hb.2⟩
theorem step_count (most least : Int) (s : List UInt8) : StepR s (numB (takeR (passCount most least) (s, 0)).1) (takeR (passCount most least) (s, 0)).2 ∧ (takeR (passCount most least) (s, 0)).1 < 9223372036854775808 := by
  rcases takeR_cases (passCount most least) s with ⟨e, he, h⟩ | ⟨n, rest, r2, h1, h2, h⟩
  · rw [h]; exact ⟨.inl ⟨he, rfl⟩, by simp⟩
  · rw [h]
    have hb := numR_back h1
    have : r2 = rest := by
      unfold passCount at h2
      split at h2
      · simp at h2
      · split at h2
        · simp at h2
        · simpa using h2.symm
    subst this
    exact ⟨.inr ⟨rfl, hb.1, numB_pos _⟩, hb.2⟩
theorem step_text (most : Int) (s : List UInt8) : StepR s (textB (textR most (s, 0))) (takeR (passText most) (s, 0)).2 ∧ (textR most (s, 0)).length ≤ s.length := by
  rcases hnr : numR s with ⟨n, rest, e⟩
  by_cases he : e = 0
  · subst he
    rcases hps : passText most n rest with ⟨r2, e2⟩
    by_cases he2 : e2 = 0
    · subst he2
      have hb := numR_back hnr
      have ht : textR most (s, 0) = rest.take n := by simp [textR, hnr, hps]
      rw [takeR_ok hnr hps, ht]
      have h3 : n ≤ rest.length ∧ r2 = rest.drop n := by
        unfold passText at hps
        split at hps
        · simp at hps
        · split at hps
          · simp at hps
          · exact ⟨by omega, by simpa using hps.symm⟩
      refine ⟨.inr ⟨rfl, ?_, ?_⟩, ?_⟩
      · unfold textB
        rw [List.length_take, Nat.min_eq_left h3.1, List.append_assoc, h3.2, List.take_append_drop]
        exact hb.1
      · have := numB_pos (rest.take n).length
        unfold textB; rw [List.length_append]; omega
      · rw [hb.1]; simp; omega
    · have ht : textR most (s, 0) = [] := by simp [textR, hnr, hps, he2]
      rw [takeR_pass hnr hps he2, ht]
      exact ⟨.inl ⟨he2, rfl⟩, by simp⟩
  · have ht : textR most (s, 0) = [] := by simp [textR, hnr, he]
    rw [takeR_num hnr he, ht]
    exact ⟨.inl ⟨he, rfl⟩, by simp⟩
theorem step_flag (s : List UInt8) : StepR s (flagB (flagR (s, 0)).1) (flagR (s, 0)).2 := by
  unfold flagR
  simp only [ne_eq, not_true_eq_false, if_false]
  cases s with
  | nil => exact .inl ⟨by simp, rfl⟩
  | cons c r =>
    by_cases h : 1 < c.toNat
    · simp only [if_pos h]; exact .inl ⟨by simp, rfl⟩
    · simp only [if_neg h]
      refine .inr ⟨rfl, ?_, by cases decide (c.toNat = 1) <;> simp [flagB]⟩
      have hc : c = UInt8.ofNat c.toNat := UInt8.ofNat_toNat.symm
      rcases (by omega : c.toNat = 0 ∨ c.toNat = 1) with h0 | h0
      · rw [h0] at hc; subst hc; rfl
      · rw [h0] at hc; subst hc; rfl
end Go.Proofs.YtjajoiahgfafgaaGreatDoor.Plain
end

/- The document's reader of chapter 3: a number, a text, a flag, what is left. -/
section
namespace Go.Proofs.YtjajoiahgfafgaaGreatDoor
open Go.RowKit Plain

structure RRd (br : Nat) (st : St) (s : List UInt8) (at' : Nat) (w : World) : Prop where
  row : w.heap[br]? = some (.cells #[.string ⟨s.toArray⟩, .int .i64 (at' : Nat), .int .i64 (st.2 : Nat)] 60 (0, 0))
  le : at' ≤ s.length
  rest : st.1 = s.drop at'
  short : s.length ≤ 140737488355328
def RR (br : Nat) (st : St) (w : World) : Prop := ∃ s at', RRd br st s at' w
/-- The call returned v; the reader stands at st; nothing else that was there at w0 has turned. -/
def RRet (w0 : World) (br : Nat) (st : St) (v : Value) (e : Ending) (w' : World) : Prop := e = .returned v ∧ RR br st w' ∧ w0.grownBy w' (some br)
theorem RR.below {br : Nat} {st : St} {w w' : World} (h : RR br st w) (hb : Below w.heap.size w w') : RR br st w' := by
  obtain ⟨s, a, h⟩ := h
  exact ⟨s, a, (hb.block br (lt_of_heap h.row)).trans h.row, h.le, h.rest, h.short⟩
theorem RR.drewN {br : Nat} {st : St} {w : World} (h : RR br st w) (n : Nat) : RR br st (w.drewN n) := by
  obtain ⟨s, a, h⟩ := h
  exact ⟨s, a, h.row, h.le, h.rest, h.short⟩
theorem RR.grown {br : Nat} {st : St} {w w' : World} {r : Option Nat} (h : RR br st w) (hg : w.grownBy w' r) (h1 : r ≠ some br) : RR br st w' := by
  obtain ⟨s, a, h⟩ := h
  exact ⟨s, a, (hg.block br (lt_of_heap h.row) (fun e => h1 e.symm)).trans h.row, h.le, h.rest, h.short⟩

theorem num_step (acc c k : Nat) (ha : acc < 128 ^ k) (hk : k ≤ 8) : wrap64 ((acc : Int) + wrap64 ((c : Int) % 128 * 128 ^ k)) = ((acc + c % 128 * 128 ^ k : Nat) : Int) ∧ acc + c % 128 * 128 ^ k < 128 ^ (k + 1) := by
  have hp : 128 ^ k ≤ 128 ^ 8 := Nat.pow_le_pow_right (by omega) hk
  have hp8 : (128 : Nat) ^ 8 = 72057594037927936 := by decide
  rw [hp8] at hp
  have hc := Nat.mod_lt c (show 128 > 0 by omega)
  have hm : c % 128 * 128 ^ k ≤ 127 * 128 ^ k := Nat.mul_le_mul_right _ (by omega)
  have e : (c : Int) % 128 * 128 ^ k = ((c % 128 * 128 ^ k : Nat) : Int) := by push_cast; rfl
  rw [e, Nat.pow_succ]
  generalize c % 128 * 128 ^ k = m at *
  generalize 128 ^ k = p at *
  refine ⟨?_, by omega⟩
  unfold wrap64
  omega
/-- where the number at hand ends -/
def nextR (s : List UInt8) (a : Nat) : Nat := if (numR (s.drop a)).2.2 = 0 then s.length - (numR (s.drop a)).2.1.length else 0
theorem num_end {s r : List UInt8} {a v e : Nat} (h : numR (s.drop a) = (v, r, e)) (next : Nat) (x1 x2 x3 : Int) (h1 : x1 = (v : Nat)) (h2 : x2 = (next : Nat)) (h3 : x3 = (e : Nat)) (hr : e = 0 → r = s.drop next ∧ next ≤ s.length) (h0 : e ≠ 0 → next = 0) :
    Ending.returned (.tuple #[.int .i64 x1, .int .i64 x2, .int .i64 x3]) = .returned (.tuple #[.int .i64 ((numR (s.drop a)).1 : Nat), .int .i64 (nextR s a : Nat), .int .i64 ((numR (s.drop a)).2.2 : Nat)]) ∧
      ((numR (s.drop a)).2.2 = 0 → (numR (s.drop a)).2.1 = s.drop (nextR s a) ∧ nextR s a ≤ s.length) ∧ True := by
  have hx : nextR s a = next := by
    unfold nextR
    rw [h]
    by_cases he : e = 0
    · obtain ⟨h4, h5⟩ := hr he
      simp only [he, if_true, h4]
      simp; omega
    · simp only [he, if_false]
      exact (h0 he).symm
  rw [h, hx]
  exact ⟨by rw [h1, h2, h3], hr, trivial⟩
theorem RRd.facts {br a : Nat} {st : St} {s : List UInt8} {w : World} (h : RRd br st s a w) : w.cell? ⟨br, 0, none⟩ = some (.string ⟨s.toArray⟩) ∧ w.cell? ⟨br, 1, none⟩ = some (.int .i64 (a : Nat)) ∧ w.cell? ⟨br, 2, none⟩ = some (.int .i64 (st.2 : Nat)) ∧
    w.frozen? ⟨br, 1, none⟩ = false ∧ w.frozen? ⟨br, 2, none⟩ = false :=
  ⟨cell_of_row w br 0 _ _ _ h.row, cell_of_row w br 1 _ _ _ h.row, cell_of_row w br 2 _ _ _ h.row, by unfold World.frozen?; rw [h.row]; rfl, by unfold World.frozen?; rw [h.row]; rfl⟩
theorem RRd.fail {br a : Nat} {st : St} {s : List UInt8} {w : World} (h : RRd br st s a w) (e : Nat) : RR br (st.1, e) (w.setCell ⟨br, 2, none⟩ (.int .i64 (e : Nat))) :=
  ⟨s, a, by rw [heap_set h.row]; rfl, h.le, h.rest, h.short⟩
theorem RRd.go {br a : Nat} {st : St} {s : List UInt8} {w : World} (h : RRd br st s a w) {b : Nat} (hb : b ≤ s.length) : RR br (s.drop b, st.2) (w.setCell ⟨br, 1, none⟩ (.int .i64 (b : Nat))) :=
  ⟨s, b, by rw [heap_set h.row]; rfl, hb, rfl, h.short⟩
theorem RRd.drewN {br a : Nat} {st : St} {s : List UInt8} {w : World} (h : RRd br st s a w) (n : Nat) : RRd br st s a (w.drewN n) := ⟨h.row, h.le, h.rest, h.short⟩
set_option maxRecDepth 100000 in
set_option maxHeartbeats 1000000 in
theorem RefNumber_any (s : List UInt8) (a : Nat) (w : World) (ha : a ≤ s.length) (hs : s.length ≤ 140737488355328) :
    Calls Tryz.prog 62 #[.string ⟨s.toArray⟩, .int .i64 (a : Nat)] w fun e w' => e = .returned (.tuple #[.int .i64 ((numR (s.drop a)).1 : Nat), .int .i64 (nextR s a : Nat), .int .i64 ((numR (s.drop a)).2.2 : Nat)]) ∧
      ((numR (s.drop a)).2.2 = 0 → (numR (s.drop a)).2.1 = s.drop (nextR s a) ∧ nextR s a ≤ s.length) ∧ w' = w := by
  go_enter Tryz.func62, Tryz.ntmps62
  go_wp2_with (fail)
  go_loopw [7, 8, 9, 10] (fun t7 t8 t9 _ wr => ∃ (k acc : Nat) (u : Int), t7 = .int .i64 (acc : Nat) ∧ t8 = .int .i64 u ∧ t9 = .int .i64 (k : Nat) ∧ a + k ≤ s.length ∧ k ≤ 9 ∧ acc < 128 ^ k ∧ Hid (k ≤ 8 → u = (128 ^ k : Nat)) ∧ Hid (numG k acc (s.drop (a + k)) = numR (s.drop a)) ∧ wr = w) (fun _ _ t9 _ _ => 10 - (intOf t9).toNat)
  case atStart => exact ⟨0, 0, 1, rfl, rfl, rfl, by omega, by omega, by omega, Lib.hid (fun _ => rfl), Lib.hid rfl, rfl⟩
  case round =>
    obtain ⟨k, acc, u, rfl, rfl, rfl, hk, hk9, hacc, HU, HG, rfl⟩ := hrel
    have HA := Lib.hid hacc
    clear hacc
    by_cases h9 : k = 9
    · have hb9 : ((k : Int) == 9) = true := by rw [beq_iff_eq]; omega
      have hg := HG.out
      have he : numR (s.drop a) = (0, [], 31) := by
        rw [← hg, h9]
        cases hd : s.drop (a + 9) with
        | nil => rfl
        | cons c r => simp [numG]
      have HE := Lib.hid he
      clear hg he h9
      go_wp2_with (fail)
      go_ret3
      simp only [Array.getD_eq_getD_getElem?, List.getElem?_toArray, List.getElem?_cons_succ, List.getElem?_cons_zero, Option.getD_some]
      exact num_end HE.out 0 _ _ _ rfl rfl rfl (fun h => by cases h) (fun _ => rfl)
    · have hb9 : ((k : Int) == 9) = false := by rw [beq_eq_false_iff_ne]; omega
      have hw1 : wrap64 ((a : Int) + k) = ((a + k : Nat) : Int) := by unfold wrap64; omega
      by_cases hlt : a + k < s.length
      · have hc : s[a + k].toNat < 256 := s[a + k].toNat_lt
        have hdr : s.drop (a + k) = s[a + k] :: s.drop (a + k + 1) := (List.getElem_cons_drop hlt).symm
        have hg := HG.out
        rw [hdr] at hg
        have HG := Lib.hid hg
        clear hdr hg
        have hu := HU.out (by omega)
        subst hu
        have HST := Lib.hid (num_step acc s[a + k].toNat k HA.out (by omega))
        go_wp2_with (fail)
        · have hg := HG.out
          rw [numG, if_neg h9, if_pos (by omega), if_pos ⟨by omega, by omega⟩] at hg
          go_ret3
          simp only [Array.getD_eq_getD_getElem?, List.getElem?_toArray, List.getElem?_cons_succ, List.getElem?_cons_zero, Option.getD_some]
          exact num_end hg.symm 0 _ _ _ rfl rfl rfl (fun h => by cases h) (fun _ => rfl)
        · have hg := HG.out
          have h0 : s[a + k].toNat = 0 := by omega
          rw [numG, if_neg h9, if_pos (by omega), if_neg (by omega)] at hg
          go_ret3
          simp only [Array.getD_eq_getD_getElem?, List.getElem?_toArray, List.getElem?_cons_succ, List.getElem?_cons_zero, Option.getD_some]
          refine num_end hg.symm (a + k + 1) _ _ _ ?_ (by push_cast; rfl) rfl (fun h => ⟨rfl, by omega⟩) (fun h => absurd rfl h)
          have := HST.out.1
          rw [h0, Nat.zero_mod, Nat.zero_mul] at this
          rw [h0, Nat.zero_mul, ← this]
          rw [show (((0 : Nat) : Int) % 128) = 0 from rfl, Int.zero_mul]
        · have hg := HG.out
          have h128 : s[a + k].toNat < 128 := by omega
          rw [numG, if_neg h9, if_pos h128, if_neg (by omega)] at hg
          go_ret3
          simp only [Array.getD_eq_getD_getElem?, List.getElem?_toArray, List.getElem?_cons_succ, List.getElem?_cons_zero, Option.getD_some]
          refine num_end hg.symm (a + k + 1) _ _ _ ?_ (by push_cast; rfl) rfl (fun h => ⟨rfl, by omega⟩) (fun h => absurd rfl h)
          have := HST.out.1
          rw [Nat.mod_eq_of_lt h128] at this
          exact this
        · have h128 : ¬ s[a + k].toNat < 128 := by omega
          have hg := HG.out
          rw [numG, if_neg h9, if_neg h128] at hg
          have hst := HST.out
          go_roundw
          case rel =>
            refine ⟨k + 1, _, _, by rw [hst.1], rfl, by go_num, by omega, by omega, hst.2, Lib.hid (fun hk8 => ?_), Lib.hid (by rw [show a + (k + 1) = a + k + 1 by omega]; exact hg), trivial⟩
            have hp : 128 ^ k ≤ 128 ^ 7 := Nat.pow_le_pow_right (by omega) (by omega)
            have hp8 : (128 : Nat) ^ 7 = 562949953421312 := by decide
            rw [hp8] at hp
            rw [Nat.pow_succ]
            have e : ((128 : Int) ^ k) = ((128 ^ k : Nat) : Int) := by push_cast; rfl
            rw [e]
            generalize 128 ^ k = p at *
            unfold wrap64
            omega
          case measure => simp [intOf]; omega
      · have hd : s.drop (a + k) = [] := List.drop_eq_nil_of_le (by omega)
        have hg := HG.out
        rw [hd, numG, if_neg (by omega)] at hg
        have HG := Lib.hid hg
        clear hg hd HA HU
        go_wp2_with (fail)
        go_ret3
        simp only [Array.getD_eq_getD_getElem?, List.getElem?_toArray, List.getElem?_cons_succ, List.getElem?_cons_zero, Option.getD_some]
        exact num_end HG.out.symm 0 _ _ _ rfl rfl rfl (fun h => by cases h) (fun _ => rfl)

theorem nextR_fact (S : List UInt8) (a : Nat) (ha : a ≤ S.length) (h : (numR (S.drop a)).2.2 = 0) : (numR (S.drop a)).2.1 = S.drop (nextR S a) ∧ nextR S a ≤ S.length := by
  rcases hn : numR (S.drop a) with ⟨n, rest, e⟩
  rw [hn] at h
  simp only at h
  subst h
  obtain ⟨h1, h2⟩ := numR_back hn
  have hl : S.length - a = (numB n).length + rest.length := by rw [← List.length_drop, h1, List.length_append]
  have hx : nextR S a = a + (numB n).length := by
    unfold nextR
    rw [hn]
    simp only [if_true]
    omega
  rw [hx]
  refine ⟨?_, by omega⟩
  rw [← List.drop_drop, h1, List.drop_left]
set_option maxRecDepth 100000 in
set_option maxHeartbeats 1000000 in
theorem RefRNum_any (br : Nat) (s : List UInt8) (f : Nat) (w : World) (h : RR br (s, f) w) :
    Calls Tryz.prog 31 #[.pointer (some ⟨br, 0, none⟩)] w (RRet w br (takeR passNum (s, f)).2 (.int .i64 ((takeR passNum (s, f)).1 : Nat))) := by
  obtain ⟨S, a, h⟩ := h
  obtain ⟨c0, c1, c2, g1, g2⟩ := h.facts
  have hrest := h.rest
  simp only at hrest c2
  subst hrest
  by_cases hf : f = 0
  · subst hf
    have hN := fun W => RefNumber_any S a W h.le h.short
    have hfact : (numR (S.drop a)).2.2 = 0 → (numR (S.drop a)).2.1 = S.drop (nextR S a) ∧ nextR S a ≤ S.length := nextR_fact S a h.le
    rcases hn : numR (S.drop a) with ⟨n, rest, e⟩
    rw [hn] at hN hfact
    have hQ : ∀ W, Calls Tryz.prog 62 #[.string ⟨S.toArray⟩, .int .i64 (a : Nat)] W fun e' w'' => e' = .returned (.tuple #[.int .i64 (n : Nat), .int .i64 (nextR S a : Nat), .int .i64 (e : Nat)]) ∧ w'' = W := fun W => (hN W).mono fun _ _ h => ⟨h.1, h.2.2⟩
    generalize nextR S a = next at *
    have H := Lib.hid h
    have HN := Lib.hid hn
    have HF := Lib.hid hfact
    clear h hn hN hfact
    by_cases he : e = 0
    · subst he
      have htk : takeR passNum (S.drop a, 0) = (n, (rest, 0)) := takeR_ok HN.out rfl
      rw [htk]
      obtain ⟨hf1, hf2⟩ := HF.out rfl
      clear htk
      go_enter Tryz.func31, Tryz.ntmps31
      go_wp2_with (fail)
      go_quiet (first | (go_at_call 62; exact Calls.quiet_of_same (hQ _)))
      go_wp2_with (fail)
      go_ret
      exact ⟨rfl, by rw [hf1]; exact (H.out.drewN _).go hf2, gb_set (gb_drewN (gb_refl _ _) _) (.inl rfl) _⟩
    · have htk : takeR passNum (S.drop a, 0) = (0, (S.drop a, e)) := takeR_num HN.out he
      rw [htk]
      have he2 : ((e : Int) != 0) = true := by simpa using he
      clear htk
      go_enter Tryz.func31, Tryz.ntmps31
      go_wp2_with (fail)
      go_quiet (first | (go_at_call 62; exact Calls.quiet_of_same (hQ _)))
      go_wp2_with (fail)
      go_ret
      exact ⟨rfl, (H.out.drewN _).fail e, gb_set (gb_drewN (gb_refl _ _) _) (.inl rfl) _⟩
  · have hr : takeR passNum (S.drop a, f) = (0, (S.drop a, f)) := takeR_bad hf
    rw [hr]
    clear hr
    have he2 : ((f : Int) != 0) = true := by simpa using hf
    go_enter Tryz.func31, Tryz.ntmps31
    go_wp2_with (fail)
    go_ret
    exact ⟨rfl, ⟨S, a, h⟩, gb_refl _ _⟩

set_option maxRecDepth 100000 in
set_option maxHeartbeats 2000000 in
theorem RefRText_any (br : Nat) (most : Int) (s : List UInt8) (f : Nat) (w : World) (h : RR br (s, f) w) :
    Calls Tryz.prog 30 #[.pointer (some ⟨br, 0, none⟩), .int .i64 most] w (RRet w br (takeR (passText most) (s, f)).2 (.string ⟨(textR most (s, f)).toArray⟩)) := by
  obtain ⟨S, a, h⟩ := h
  obtain ⟨c0, c1, c2, g1, g2⟩ := h.facts
  have hrest := h.rest
  simp only at hrest c2
  subst hrest
  by_cases hf : f = 0
  · subst hf
    have hN := fun W => RefNumber_any S a W h.le h.short
    have hfact : (numR (S.drop a)).2.2 = 0 → (numR (S.drop a)).2.1 = S.drop (nextR S a) ∧ nextR S a ≤ S.length := nextR_fact S a h.le
    have hshort := h.short
    rcases hn : numR (S.drop a) with ⟨n, rest, e⟩
    rw [hn] at hN hfact
    have hQ : ∀ W, Calls Tryz.prog 62 #[.string ⟨S.toArray⟩, .int .i64 (a : Nat)] W fun e' w'' => e' = .returned (.tuple #[.int .i64 (n : Nat), .int .i64 (nextR S a : Nat), .int .i64 (e : Nat)]) ∧ w'' = W := fun W => (hN W).mono fun _ _ h => ⟨h.1, h.2.2⟩
    generalize nextR S a = next at *
    have H := Lib.hid h
    have HN := Lib.hid hn
    have HF := Lib.hid hfact
    clear h hn hN hfact
    by_cases he : e = 0
    · subst he
      obtain ⟨hf1, hf2⟩ := HF.out rfl
      simp only at hf1
      subst hf1
      by_cases hm : most < (n : Int)
      · have hp : passText most n (S.drop next) = ([], 32) := by unfold passText; rw [if_pos hm]
        have htk : takeR (passText most) (S.drop a, 0) = (0, (S.drop a, 32)) := takeR_pass HN.out hp (by decide)
        have htx : textR most (S.drop a, 0) = [] := by unfold textR; rw [HN.out]; simp [hp]
        rw [htk, htx]
        clear htk htx hp
        go_enter Tryz.func30, Tryz.ntmps30
        go_wp2_with (fail)
        go_quiet (first | (go_at_call 62; exact Calls.quiet_of_same (hQ _)))
        go_wp2_with (fail)
        go_ret
        exact ⟨rfl, (H.out.drewN _).fail 32, gb_set (gb_drewN (gb_refl _ _) _) (.inl rfl) _⟩
      · by_cases hl : S.length - next < n
        · have hp : passText most n (S.drop next) = ([], 30) := by unfold passText; rw [if_neg hm, if_pos (by simpa using hl)]
          have htk : takeR (passText most) (S.drop a, 0) = (0, (S.drop a, 30)) := takeR_pass HN.out hp (by decide)
          have htx : textR most (S.drop a, 0) = [] := by unfold textR; rw [HN.out]; simp [hp]
          have hl2 : (S.length : Int) - (next : Nat) < (n : Nat) := by omega
          have hw : wrap64 ((S.length : Int) - (next : Nat)) = (S.length : Int) - (next : Nat) := by unfold wrap64; omega
          rw [htk, htx]
          clear htk htx hp
          go_enter Tryz.func30, Tryz.ntmps30
          go_wp2_with (fail)
          go_quiet (first | (go_at_call 62; exact Calls.quiet_of_same (hQ _)))
          go_wp2_with (fail)
          go_ret
          exact ⟨rfl, (H.out.drewN _).fail 30, gb_set (gb_drewN (gb_refl _ _) _) (.inl rfl) _⟩
        · have hp : passText most n (S.drop next) = ((S.drop next).drop n, 0) := by unfold passText; rw [if_neg hm, if_neg (by simpa using hl)]
          have htk : takeR (passText most) (S.drop a, 0) = (n, ((S.drop next).drop n, 0)) := takeR_ok HN.out hp
          have htx : textR most (S.drop a, 0) = (S.drop next).take n := by unfold textR; rw [HN.out]; simp [hp]
          have hl2 : ¬ (S.length : Int) - (next : Nat) < (n : Nat) := by omega
          have hw : wrap64 ((S.length : Int) - (next : Nat)) = (S.length : Int) - (next : Nat) := by unfold wrap64; omega
          rw [htk, htx]
          clear htk htx hp
          go_enter Tryz.func30, Tryz.ntmps30
          go_wp2_with (fail)
          go_quiet (first | (go_at_call 62; exact Calls.quiet_of_same (hQ _)))
          go_wp2_with (fail)
          simp only [Nat.add_sub_cancel_left]
          go_ret
          exact ⟨rfl, by rw [List.drop_drop]; exact (H.out.drewN _).go (b := next + n) (by omega), gb_set (gb_drewN (gb_refl _ _) _) (.inl rfl) _⟩
    · have htk : takeR (passText most) (S.drop a, 0) = (0, (S.drop a, e)) := takeR_num HN.out he
      have htx : textR most (S.drop a, 0) = [] := by unfold textR; rw [HN.out]; simp [he]
      rw [htk, htx]
      have he2 : ((e : Int) != 0) = true := by simpa using he
      have he3 : ((e : Int) == 0) = false := by simpa using he
      clear htk htx
      go_enter Tryz.func30, Tryz.ntmps30
      go_wp2_with (fail)
      go_quiet (first | (go_at_call 62; exact Calls.quiet_of_same (hQ _)))
      go_wp2_with (fail)
      go_ret
      exact ⟨rfl, (H.out.drewN _).fail e, gb_set (gb_drewN (gb_refl _ _) _) (.inl rfl) _⟩
  · have hr : takeR (passText most) (S.drop a, f) = (0, (S.drop a, f)) := takeR_bad hf
    have htx : textR most (S.drop a, f) = [] := by simp [textR, hf]
    rw [hr, htx]
    clear hr htx
    have he2 : ((f : Int) != 0) = true := by simpa using hf
    go_enter Tryz.func30, Tryz.ntmps30
    go_wp2_with (fail)
    go_ret
    exact ⟨rfl, ⟨S, a, h⟩, gb_refl _ _⟩


set_option maxRecDepth 100000 in
set_option maxHeartbeats 1000000 in
theorem RefREnd_any (br : Nat) (s : List UInt8) (f : Nat) (w : World) (h : RR br (s, f) w) : Calls Tryz.prog 33 #[.pointer (some ⟨br, 0, none⟩)] w (Ret w (.int .i64 (endR (s, f) : Nat))) := by
  obtain ⟨S, a, h⟩ := h
  obtain ⟨c0, c1, c2, g1, g2⟩ := h.facts
  have hrest := h.rest
  simp only at hrest c2
  subst hrest
  have hshort := h.short
  by_cases hf : f = 0
  · subst hf
    by_cases hlt : a < S.length
    · have he : endR (S.drop a, 0) = 32 := by
        unfold endR
        rw [if_pos ⟨rfl, fun e => by have := congrArg List.length e; simp at this; omega⟩]
      have hle : decide ((a : Int) < (S.length : Nat)) = true := decide_eq_true (by omega)
      rw [he]
      clear he h
      go_enter Tryz.func33, Tryz.ntmps33
      go_wp2_with (fail)
      go_quiet (fail)
      go_wp2_with (fail)
      go_ret
      exact ⟨rfl, below_drewN (Below.refl _ _) _⟩
    · have he : endR (S.drop a, 0) = 0 := by
        unfold endR
        rw [if_neg (fun e => e.2 (List.drop_eq_nil_of_le (by omega)))]
      have hle : decide ((a : Int) < (S.length : Nat)) = false := decide_eq_false (by omega)
      rw [he]
      clear he h
      go_enter Tryz.func33, Tryz.ntmps33
      go_wp2_with (fail)
      go_quiet (fail)
      go_wp2_with (fail)
      go_ret
      exact ⟨rfl, below_drewN (Below.refl _ _) _⟩
  · have he : endR (S.drop a, f) = f := by simp [endR, hf]
    have he2 : ((f : Int) != 0) = true := by simpa using hf
    rw [he]
    clear he h
    go_enter Tryz.func33, Tryz.ntmps33
    go_wp2_with (fail)
    go_ret
    exact ⟨rfl, Below.refl _ _⟩
end Go.Proofs.YtjajoiahgfafgaaGreatDoor
end

/- The document's reader: how many follow (at most 1000, of 7 bytes at least); the calls by a state. -/
section
set_option linter.unusedVariables false
namespace Go.Proofs.YtjajoiahgfafgaaGreatDoor
open Go.RowKit Plain

set_option maxRecDepth 100000 in
set_option maxHeartbeats 2000000 in
theorem RefRCount_any (br : Nat) (s : List UInt8) (f : Nat) (w : World) (h : RR br (s, f) w) :
    Calls Tryz.prog 32 #[.pointer (some ⟨br, 0, none⟩), .int .i64 1000, .int .i64 7] w (RRet w br (takeR (passCount 1000 7) (s, f)).2 (.int .i64 ((takeR (passCount 1000 7) (s, f)).1 : Nat))) := by
  obtain ⟨S, a, h⟩ := h
  obtain ⟨c0, c1, c2, g1, g2⟩ := h.facts
  have hrest := h.rest
  simp only at hrest c2
  subst hrest
  by_cases hf : f = 0
  · subst hf
    have hN := fun W => RefNumber_any S a W h.le h.short
    have hfact : (numR (S.drop a)).2.2 = 0 → (numR (S.drop a)).2.1 = S.drop (nextR S a) ∧ nextR S a ≤ S.length := nextR_fact S a h.le
    rcases hn : numR (S.drop a) with ⟨n, rest, e⟩
    rw [hn] at hN hfact
    have hQ : ∀ W, Calls Tryz.prog 62 #[.string ⟨S.toArray⟩, .int .i64 (a : Nat)] W fun e' w'' => e' = .returned (.tuple #[.int .i64 (n : Nat), .int .i64 (nextR S a : Nat), .int .i64 (e : Nat)]) ∧ w'' = W := fun W => (hN W).mono fun _ _ h => ⟨h.1, h.2.2⟩
    generalize nextR S a = next at *
    have H := Lib.hid h
    have HN := Lib.hid hn
    have HF := Lib.hid hfact
    have hsh := h.short
    clear h hn hN hfact
    by_cases he : e = 0
    · subst he
      obtain ⟨hf1, hf2⟩ := HF.out rfl
      subst hf1
      by_cases h1 : 1000 < n
      · have hp : passCount 1000 7 n (S.drop next) = ([], 32) := by unfold passCount; rw [if_pos (by omega)]
        have htk : takeR (passCount 1000 7) (S.drop a, 0) = (0, (S.drop a, 32)) := takeR_pass HN.out hp (by decide)
        rw [htk]
        have h1' : decide ((1000 : Int) < (n : Int)) = true := by rw [decide_eq_true_eq]; omega
        clear htk hp
        go_enter Tryz.func32, Tryz.ntmps32
        go_wp2_with (fail)
        go_quiet (first | (go_at_call 62; exact Calls.quiet_of_same (hQ _)))
        go_wp2_with (fail)
        go_ret
        exact ⟨rfl, (H.out.drewN _).fail 32, gb_set (gb_drewN (gb_refl _ _) _) (.inl rfl) _⟩
      · have h1' : decide ((1000 : Int) < (n : Int)) = false := by rw [decide_eq_false_iff_not]; omega
        have hq : (((S.length : Int) - (next : Int)) / 7) = (((S.length - next) / 7 : Nat) : Int) := by omega
        have hmx : (max (7 : Int) 1).toNat = 7 := rfl
        have hmx7 : max (7 : Int) 1 = 7 := rfl
        by_cases h2 : (S.length - next) / 7 < n
        · have hp : passCount 1000 7 n (S.drop next) = ([], 30) := by unfold passCount; rw [if_neg (by omega), hmx, List.length_drop, if_pos h2]
          have htk : takeR (passCount 1000 7) (S.drop a, 0) = (0, (S.drop a, 30)) := takeR_pass HN.out hp (by decide)
          rw [htk]
          have h2' : decide (((S.length : Int) - (next : Int)) / 7 < (n : Int)) = true := by rw [decide_eq_true_eq]; omega
          clear htk hp
          go_enter Tryz.func32, Tryz.ntmps32
          go_wp2_with (fail)
          go_quiet (first | (go_at_call 62; exact Calls.quiet_of_same (hQ _)))
          go_wp2_with (fail)
          go_ret
          exact ⟨rfl, (H.out.drewN _).fail 30, gb_set (gb_drewN (gb_refl _ _) _) (.inl rfl) _⟩
        · have hp : passCount 1000 7 n (S.drop next) = (S.drop next, 0) := by unfold passCount; rw [if_neg (by omega), hmx, List.length_drop, if_neg h2]
          have htk : takeR (passCount 1000 7) (S.drop a, 0) = (n, (S.drop next, 0)) := takeR_ok HN.out hp
          rw [htk]
          have h2' : decide (((S.length : Int) - (next : Int)) / 7 < (n : Int)) = false := by rw [decide_eq_false_iff_not]; omega
          clear htk hp
          go_enter Tryz.func32, Tryz.ntmps32
          go_wp2_with (fail)
          go_quiet (first | (go_at_call 62; exact Calls.quiet_of_same (hQ _)))
          go_wp2_with (fail)
          go_ret
          exact ⟨rfl, (H.out.drewN _).go hf2, gb_set (gb_drewN (gb_refl _ _) _) (.inl rfl) _⟩
    · have htk : takeR (passCount 1000 7) (S.drop a, 0) = (0, (S.drop a, e)) := takeR_num HN.out he
      rw [htk]
      have he2 : ((e : Int) != 0) = true := by simpa using he
      have he3 : ((e : Int) == 0) = false := by simpa using he
      clear htk
      go_enter Tryz.func32, Tryz.ntmps32
      go_wp2_with (fail)
      go_quiet (first | (go_at_call 62; exact Calls.quiet_of_same (hQ _)))
      go_wp2_with (fail)
      go_ret
      exact ⟨rfl, (H.out.drewN _).fail e, gb_set (gb_drewN (gb_refl _ _) _) (.inl rfl) _⟩
  · have hr : takeR (passCount 1000 7) (S.drop a, f) = (0, (S.drop a, f)) := takeR_bad hf
    rw [hr]
    clear hr
    have he2 : ((f : Int) != 0) = true := by simpa using hf
    go_enter Tryz.func32, Tryz.ntmps32
    go_wp2_with (fail)
    go_ret
    exact ⟨rfl, ⟨S, a, h⟩, gb_refl _ _⟩
theorem RR.shortS {br : Nat} {st : St} {w : World} (h : RR br st w) : st.1.length ≤ 140737488355328 := by
  obtain ⟨S, a, h⟩ := h
  rw [h.rest, List.length_drop]
  have := h.short
  omega
theorem RefRText_st (br : Nat) (most : Int) (st : St) (w : World) (h : RR br st w) : Calls Tryz.prog 30 #[.pointer (some ⟨br, 0, none⟩), .int .i64 most] w (RRet w br (takeR (passText most) st).2 (.string ⟨(textR most st).toArray⟩)) := by
  obtain ⟨s, f⟩ := st; exact RefRText_any br most s f w h
theorem RefRNum_st (br : Nat) (st : St) (w : World) (h : RR br st w) : Calls Tryz.prog 31 #[.pointer (some ⟨br, 0, none⟩)] w (RRet w br (takeR passNum st).2 (.int .i64 ((takeR passNum st).1 : Nat))) := by
  obtain ⟨s, f⟩ := st; exact RefRNum_any br s f w h
theorem RefRCount_st (br : Nat) (st : St) (w : World) (h : RR br st w) : Calls Tryz.prog 32 #[.pointer (some ⟨br, 0, none⟩), .int .i64 1000, .int .i64 7] w (RRet w br (takeR (passCount 1000 7) st).2 (.int .i64 ((takeR (passCount 1000 7) st).1 : Nat))) := by
  obtain ⟨s, f⟩ := st; exact RefRCount_any br s f w h
theorem RefREnd_st (br : Nat) (st : St) (w : World) (h : RR br st w) : Calls Tryz.prog 33 #[.pointer (some ⟨br, 0, none⟩)] w (Ret w (.int .i64 (endR st : Nat))) := by
  obtain ⟨s, f⟩ := st; exact RefREnd_any br s f w h
end Go.Proofs.YtjajoiahgfafgaaGreatDoor
end

/- What is written, by the document: numbers (by recursion), texts, flags. -/
section
namespace Go.Proofs.YtjajoiahgfafgaaGreatDoor
open Go.RowKit Plain

/-- 'string(b)', b of one byte. -/
theorem conv_one {P : Program} (src e dst : TypeId) (hs : P.underlying src = some (.slice e)) (he : P.underlying e = some (.int .u8)) (hd : P.underlying dst = some .string) (W : World) (b cap : Nat) (v : Int) (h : W.cell? ⟨b, 0, none⟩ = some (.int .u8 v)) :
    (convert src dst (.slice (some ⟨b, 0, none⟩) 1 cap)).run P W = .ok (.string ⟨#[UInt8.ofNat v.toNat]⟩) W :=
  run_convert_bytes_arg W src e hs he b 0 1 cap [v] rfl (fun i hi => by
    obtain rfl : i = 0 := by omega
    simpa using h) dst hd

theorem numF_more : ∀ (k n : Nat), n < 128 ^ (k + 1) → numF (k + 2) n = numF (k + 1) n
  | 0, n, h => by simp at h; simp [numF, h]
  | k + 1, n, h => by
    have h2 := numF_more k (n / 128) (by rw [Nat.pow_succ] at h; omega)
    rw [show numF (k + 1 + 2) n = if n < 128 then [UInt8.ofNat n] else UInt8.ofNat (n % 128 + 128) :: numF (k + 2) (n / 128) from rfl,
      show numF (k + 1 + 1) n = if n < 128 then [UInt8.ofNat n] else UInt8.ofNat (n % 128 + 128) :: numF (k + 1) (n / 128) from rfl, h2]
theorem numF_nine : ∀ (k n : Nat), k ≤ 8 → n < 128 ^ (k + 1) → numB n = numF (k + 1) n := by
  intro k n hk h
  unfold numB
  have key : ∀ j, k + j ≤ 8 → numF (k + j + 1) n = numF (k + 1) n := by
    intro j
    induction j with
    | zero => intro _; rfl
    | succ j ih =>
      intro hj
      rw [← ih (by omega)]
      exact numF_more (k + j) n (Nat.lt_of_lt_of_le h (Nat.pow_le_pow_right (by omega) (by omega)))
  have := key (8 - k) (by omega)
  rw [← this]; congr 1; omega
theorem numB_small {n : Nat} (h : n < 128) : numB n = [UInt8.ofNat n] := by unfold numB numF; rw [if_pos h]
theorem numB_big {n : Nat} (h : ¬ n < 128) (h2 : n < 9223372036854775808) : numB n = UInt8.ofNat (n % 128 + 128) :: numB (n / 128) := by
  rw [numF_nine 7 (n / 128) (by omega) (by omega)]
  unfold numB
  conv => lhs; unfold numF
  rw [if_neg h]

set_option maxRecDepth 100000 in
set_option maxHeartbeats 400000 in
theorem RefNum_any : ∀ (n : Nat) (w : World), n < 9223372036854775808 → Calls Tryz.prog 40 #[.int .i64 n] w (Ret w (.string ⟨(numB n).toArray⟩)) := by
  intro n
  induction n using Nat.strongRecOn with
  | _ n ih =>
    intro w hn
    have hk := fun w xs n cap hn m => run_convert_laid (P := Tryz.prog) w 63 5 9 Tryz.underlying63 Tryz.underlying5 Tryz.underlying9 xs n cap hn m
    by_cases h : n < 128
    · rw [numB_small h]
      have hc := hk w [n] 1 1 rfl (0, 0)
      simp only [List.map_cons, List.map_nil, Int.toNat_natCast] at hc
      clear hk ih
      go_enter Tryz.func40, Tryz.ntmps40
      go_wp2_with (fail)
      go_ret
      exact ⟨rfl, (Below.refl _ _).alloc (Nat.le_refl _) _⟩
    · rw [numB_big h hn]
      have hc := conv_one (P := Tryz.prog) 63 5 9 Tryz.underlying63 Tryz.underlying5 Tryz.underlying9
      have hI := fun w => ih (n / 128) (by omega) w (by omega)
      have h8 : (numB (n / 128)).length ≤ 9 := numF_length 9 _
      generalize hm : n / 128 = m at *
      have e4 : IntKind.i64.wrap ((n : Int) / 128) = (m : Int) := by rw [IntWalk.i64_in _ (by omega)]; omega
      obtain ⟨c, hcc⟩ : ∃ c, c = n % 128 + 128 := ⟨_, rfl⟩
      have e3 : IntKind.u8.wrap (IntKind.i64.wrap (128 + (n : Int).tmod 128)) = (c : Int) := by
        rw [Int.tmod_eq_emod_of_nonneg (by omega), IntWalk.i64_in _ (by omega), IntKind.wrap_u8]; omega
      rw [← hcc]
      have h0 : ¬ (n : Int) < 0 := by omega
      have h1 : ¬ (n : Int) < 128 := by omega
      have h9 : ¬ 9223372036854775807 < 1 + (numB m).length := by omega
      clear hk ih hm hcc h hn
      go_enter Tryz.func40, Tryz.ntmps40
      go_wp2_with (fail)
      go_region_with (go_at_call 40; refine (hI _).mono ?_; rintro e w1 ⟨rfl, hb1⟩; have hq := fun o => hb1.cell (p := ⟨w.heap.size, o, none⟩))
      all_goals go_wp2_with (fail)
      all_goals go_ret
      all_goals refine ⟨rfl, ?_⟩
      · exact ((Below.refl w.heap.size w).alloc (Nat.le_refl _) _).drew.trans (hb1.mono (by simp))
      · exact ((Below.refl w.heap.size w).alloc (Nat.le_refl _) _).drew.trans (hb1.mono (by simp))
      · exact ((Below.refl w.heap.size w).drew.trans hb1).alloc hb1.size _

set_option maxRecDepth 100000 in
set_option maxHeartbeats 400000 in
theorem RefNum_neg (n : Int) (w : World) (h : n < 0) : Calls Tryz.prog 40 #[.int .i64 n] w (Ret w (.string ⟨#[]⟩)) := by
  go_enter Tryz.func40, Tryz.ntmps40
  go_wp2_with (fail)
  go_ret
  exact ⟨rfl, Below.refl _ _⟩
set_option maxRecDepth 100000 in
set_option maxHeartbeats 400000 in
theorem RefText_any (s : List UInt8) (w : World) (hs : s.length ≤ 140737488355328) : Calls Tryz.prog 39 #[.string ⟨s.toArray⟩] w (Ret w (.string ⟨(textB s).toArray⟩)) := by
  have hl : (numB s.length).length ≤ 9 := numF_length 9 _
  go_enter Tryz.func39, Tryz.ntmps39
  go_wp2_with (fail)
  refine (Ret.quiet (Below.refl _ _) (RefNum_any s.length _ (by omega))).mono ?_
  rintro e w1 ⟨rfl, hb1⟩
  go_wp2_with (fail)
  go_ret
  exact ⟨rfl, hb1⟩

end Go.Proofs.YtjajoiahgfafgaaGreatDoor
end

/- The texts on numbers and readers, the document's too, the count as well, ahead of the others. -/
section
set_option linter.unusedVariables false
namespace Go.Proofs.YtjajoiahgfafgaaGreatDoor
end Go.Proofs.YtjajoiahgfafgaaGreatDoor
end
