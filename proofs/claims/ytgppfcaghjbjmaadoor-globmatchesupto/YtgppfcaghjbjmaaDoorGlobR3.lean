/- hawserref02: closing, Check. -/
import Derived.Test.YtgppfcaghjbjmaaDoorGlobR2
import Derived.Deep.DeepCutAuto
import Derived.Deep.CutBlock
set_option linter.unusedVariables false
namespace Go.Proofs.YtgppfcaghjbjmaaDoor
open Go.RowKit Plain

namespace Plain
theorem closeS_step {s : List UInt8} {k P : Nat} (hk : k ≤ P) (h : P < s.length) : closeA (s.drop k) (P - k) =
    if s[P] = 47 then none else if s[P] = 92 then (if h2 : P + 1 < s.length then (if s[P + 1] = 47 then none else closeA (s.drop k) (P + 2 - k)) else none) else if s[P] = 93 then (if P - k = setFrom (s.drop k) then none else some (P - k)) else closeA (s.drop k) (P + 1 - k) := by
  have hl : P - k < (s.drop k).length := by simp; omega
  rw [closeA_step hl]
  have e1 : (s.drop k)[P - k] = s[P] := by rw [List.getElem_drop]; congr 1; omega
  rw [e1, show P - k + 1 = P + 1 - k by omega, show P - k + 2 = P + 2 - k by omega]
  by_cases h2 : P + 1 < s.length
  · have hl2 : P + 1 - k < (s.drop k).length := by simp; omega
    have e2 : (s.drop k)[P + 1 - k] = s[P + 1] := by rw [List.getElem_drop]; congr 1; omega
    rw [dif_pos hl2, dif_pos h2, e2]
  · rw [dif_neg (by simp; omega), dif_neg h2]
def clI (k : Nat) (o : Option Nat) : Int := match o with
  | some e => ((k + e : Nat) : Int)
  | none => -1
end Plain

set_option maxHeartbeats 2000000 in
set_option maxRecDepth 100000 in
theorem closing_ref (s : List UInt8) (k : Nat) (w : World) (hk : k < s.length) (hs : s.length ≤ 65536) :
    Calls Tryd.prog 49 #[.string ⟨s.toArray⟩, .int .i64 k] w (Ret w (.int .i64 (clI k (closeP (s.drop k))))) := by
  have hcl := closeA_closeP (s.drop k)
  have hd1 : (s.drop k).drop 1 = s.drop (k + 1) := by rw [List.drop_drop]
  obtain ⟨f, hf⟩ : ∃ f, setFrom (s.drop k) = f := ⟨_, rfl⟩
  have hfc : (f = 1 ∧ ¬ k + 1 < s.length) ∨ (f = 1 ∧ ∃ h : k + 1 < s.length, s[k + 1] ≠ 33) ∨ (f = 2 ∧ ∃ h : k + 1 < s.length, s[k + 1] = 33) := by
    rw [← hf]
    unfold setFrom
    rw [hd1]
    by_cases h : k + 1 < s.length
    · rw [List.drop_eq_getElem_cons h, List.head?_cons]
      by_cases h33 : s[k + 1] = 33
      · rw [if_pos (by rw [h33])]; exact .inr (.inr ⟨rfl, h, h33⟩)
      · rw [if_neg (by simpa using h33)]; exact .inr (.inl ⟨rfl, h, h33⟩)
    · rw [List.drop_eq_nil_of_le (by omega)]; exact .inl ⟨by simp, h⟩
  have hstep := fun P (h1 : k ≤ P) (h2 : P < s.length) => closeS_step (s := s) h1 h2
  rw [hf] at hcl hstep
  generalize closeP (s.drop k) = C at *
  generalize hG : closeA (s.drop k) = G at *
  have HCL := Lib.hid hcl
  have HST := Lib.hid hstep
  have hend := fun P (h1 : s.length ≤ P) => closeA_end (s := s.drop k) (i := P - k) (by simp; omega)
  rw [hG] at hend
  have HEND := Lib.hid hend
  have k0 : (0 : Int) ≤ k := by omega
  have e1 : IntKind.i64.wrap ((k : Int) + 1) = (k : Int) + 1 := IntWalk.i64_in _ (by omega)
  have e2 : IntKind.i64.wrap ((k : Int) + 1 + 1) = (k : Int) + 1 + 1 := IntWalk.i64_in _ (by omega)
  have e3 : ((k : Int) + 1).toNat = k + 1 := by omega
  have e4 : (0 : Int) ≤ (k : Int) + 1 := by omega
  have hfl : 1 ≤ f ∧ f ≤ 2 ∧ k + f ≤ s.length := by rcases hfc with ⟨h, _⟩ | ⟨h, h2, _⟩ | ⟨h, h2, _⟩ <;> omega
  clear hcl hstep hend hd1 hf hG
  rcases hfc with ⟨rfl, h⟩ | ⟨rfl, h, h33⟩ | ⟨rfl, h, h33⟩
  · have d1 : decide ((k : Int) + 1 < (s.length : Int)) = false := by rw [decide_eq_false_iff_not]; omega
    go_enter Tryd.func49, Tryd.ntmps49
    go_wp2_with (fail)
    clear d1
    go_loopw [6] (fun t6 W => ∃ P : Nat, k + 1 ≤ P ∧ P ≤ s.length ∧ t6 = .int .i64 P ∧ Hid (C = G (P - k)) ∧ W = w) (fun t6 _ => s.length - (intOf t6).toNat)
    case atStart => exact ⟨k + 1, by omega, by omega, rfl, Lib.hid (by rw [show k + 1 - k = 1 by omega]; exact HCL.out.symm), rfl⟩
    case round =>
      obtain ⟨P, hP1, hP2, rfl, HC, rfl⟩ := hrel
      have p0 : (0 : Int) ≤ P := by omega
      have HN := Lib.hid (HC.out.trans (HEND.out P (by omega)))
      go_wp2_with (fail)
      go_ret
      exact ⟨by rw [HN.out]; rfl, Below.refl _ _⟩
  · have d1 : (k : Int) + 1 < (s.length : Int) := by omega
    generalize hc1 : s[k + 1] = c at *
    have hq := u8_ne (n := 33) (by omega) h33
    clear h33
    go_enter Tryd.func49, Tryd.ntmps49
    go_wp2_with (fail)
    clear d1 hq hc1
    go_loopw [6] (fun t6 W => ∃ P : Nat, k + 1 ≤ P ∧ P ≤ s.length ∧ t6 = .int .i64 P ∧ Hid (C = G (P - k)) ∧ W = w) (fun t6 _ => s.length - (intOf t6).toNat)
    case atStart => exact ⟨k + 1, by omega, by omega, rfl, Lib.hid (by rw [show k + 1 - k = 1 by omega]; exact HCL.out.symm), rfl⟩
    case round =>
      obtain ⟨P, hP1, hP2, rfl, HC, rfl⟩ := hrel
      have p0 : (0 : Int) ≤ P := by omega
      by_cases hlt : P < s.length
      · have p1 : (P : Int) < s.length := by omega
        have hst := HST.out P (by omega) hlt
        have e5 : IntKind.i64.wrap ((P : Int) + 1) = (P : Int) + 1 := IntWalk.i64_in _ (by omega)
        have e6 : ((P : Int) + 1).toNat = P + 1 := by omega
        by_cases h47 : s[P] = 47
        · rw [if_pos h47] at hst
          have HN := Lib.hid (HC.out.trans hst)
          clear hst
          go_wp2_with (fail)
          go_ret
          exact ⟨by rw [HN.out]; rfl, Below.refl _ _⟩
        rw [if_neg h47] at hst
        by_cases h92 : s[P] = 92
        · rw [if_pos h92] at hst
          clear h47
          by_cases h2 : P + 1 < s.length
          · rw [dif_pos h2] at hst
            have d2 : decide ((s.length : Int) ≤ (P : Int) + 1) = false := by rw [decide_eq_false_iff_not]; omega
            have d3 : (P : Int) + 1 < s.length := by omega
            by_cases h47 : s[P + 1] = 47
            · rw [if_pos h47] at hst
              have HN := Lib.hid (HC.out.trans hst)
              clear hst
              go_wp2_with (fail)
              go_ret
              exact ⟨by rw [HN.out]; rfl, Below.refl _ _⟩
            · rw [if_neg h47] at hst
              have HN := Lib.hid (HC.out.trans hst)
              generalize hd : s[P + 1] = d at *
              have h47' := u8_ne (n := 47) (by omega) h47
              clear hst h47
              go_wp2_with (fail)
              go_roundw
              case rel => exact ⟨P + 2, by omega, by omega, by go_num, HN, by first | trivial | rfl⟩
              case measure => simp [intOf]; omega
          · rw [dif_neg h2] at hst
            have d2 : decide ((s.length : Int) ≤ (P : Int) + 1) = true := by rw [decide_eq_true_eq]; omega
            have HN := Lib.hid (HC.out.trans hst)
            clear hst
            go_wp2_with (fail)
            go_ret
            exact ⟨by rw [HN.out]; rfl, Below.refl _ _⟩
        rw [if_neg h92] at hst
        by_cases h93 : s[P] = 93
        · rw [if_pos h93] at hst
          clear h47 h92
          by_cases hPf : P - k = 1
          · rw [if_pos hPf] at hst
            have d2 : ((P : Int) == ((k + 1 : Nat) : Int)) = true := by rw [beq_iff_eq]; omega
            have d2' : ((P : Int) == (k : Int) + 1) = true := by rw [beq_iff_eq]; omega
            have HN := Lib.hid (HC.out.trans hst)
            clear hst hPf
            go_wp2_with (fail)
            go_ret
            exact ⟨by rw [HN.out]; rfl, Below.refl _ _⟩
          · rw [if_neg hPf] at hst
            have d2 : ((P : Int) == ((k + 1 : Nat) : Int)) = false := by rw [beq_eq_false_iff_ne]; omega
            have d2' : ((P : Int) == (k : Int) + 1) = false := by rw [beq_eq_false_iff_ne]; omega
            have HN := Lib.hid (HC.out.trans hst)
            have HKP := Lib.hid (show ((k + (P - k) : Nat) : Int) = P by omega)
            clear hst hPf
            go_wp2_with (fail)
            go_ret
            exact ⟨by rw [HN.out]; show _ = Ending.returned (.int .i64 ((k + (P - k) : Nat) : Int)); rw [HKP.out]; rfl, Below.refl _ _⟩
        · rw [if_neg h93] at hst
          have HN := Lib.hid (HC.out.trans hst)
          generalize hc : s[P] = c at *
          have h47' := u8_ne (n := 47) (by omega) h47
          have h92' := u8_ne (n := 92) (by omega) h92
          have h93' := u8_ne (n := 93) (by omega) h93
          clear hst h47 h92 h93
          go_wp2_with (fail)
          go_roundw
          case rel => exact ⟨P + 1, by omega, by omega, by go_num, HN, by first | trivial | rfl⟩
          case measure => simp [intOf]; omega
      · have HN := Lib.hid (HC.out.trans (HEND.out P (by omega)))
        go_wp2_with (fail)
        go_ret
        exact ⟨by rw [HN.out]; rfl, Below.refl _ _⟩
  · have d1 : (k : Int) + 1 < (s.length : Int) := by omega
    go_enter Tryd.func49, Tryd.ntmps49
    go_wp2_with (fail)
    clear d1 h33
    go_loopw [6] (fun t6 W => ∃ P : Nat, k + 2 ≤ P ∧ P ≤ s.length ∧ t6 = .int .i64 P ∧ Hid (C = G (P - k)) ∧ W = w) (fun t6 _ => s.length - (intOf t6).toNat)
    case atStart => exact ⟨k + 2, by omega, by omega, rfl, Lib.hid (by rw [show k + 2 - k = 2 by omega]; exact HCL.out.symm), rfl⟩
    case round =>
      obtain ⟨P, hP1, hP2, rfl, HC, rfl⟩ := hrel
      have p0 : (0 : Int) ≤ P := by omega
      by_cases hlt : P < s.length
      · have p1 : (P : Int) < s.length := by omega
        have hst := HST.out P (by omega) hlt
        have e5 : IntKind.i64.wrap ((P : Int) + 1) = (P : Int) + 1 := IntWalk.i64_in _ (by omega)
        have e6 : ((P : Int) + 1).toNat = P + 1 := by omega
        by_cases h47 : s[P] = 47
        · rw [if_pos h47] at hst
          have HN := Lib.hid (HC.out.trans hst)
          clear hst
          go_wp2_with (fail)
          go_ret
          exact ⟨by rw [HN.out]; rfl, Below.refl _ _⟩
        rw [if_neg h47] at hst
        by_cases h92 : s[P] = 92
        · rw [if_pos h92] at hst
          clear h47
          by_cases h2 : P + 1 < s.length
          · rw [dif_pos h2] at hst
            have d2 : decide ((s.length : Int) ≤ (P : Int) + 1) = false := by rw [decide_eq_false_iff_not]; omega
            have d3 : (P : Int) + 1 < s.length := by omega
            by_cases h47 : s[P + 1] = 47
            · rw [if_pos h47] at hst
              have HN := Lib.hid (HC.out.trans hst)
              clear hst
              go_wp2_with (fail)
              go_ret
              exact ⟨by rw [HN.out]; rfl, Below.refl _ _⟩
            · rw [if_neg h47] at hst
              have HN := Lib.hid (HC.out.trans hst)
              generalize hd : s[P + 1] = d at *
              have h47' := u8_ne (n := 47) (by omega) h47
              clear hst h47
              go_wp2_with (fail)
              go_roundw
              case rel => exact ⟨P + 2, by omega, by omega, by go_num, HN, by first | trivial | rfl⟩
              case measure => simp [intOf]; omega
          · rw [dif_neg h2] at hst
            have d2 : decide ((s.length : Int) ≤ (P : Int) + 1) = true := by rw [decide_eq_true_eq]; omega
            have HN := Lib.hid (HC.out.trans hst)
            clear hst
            go_wp2_with (fail)
            go_ret
            exact ⟨by rw [HN.out]; rfl, Below.refl _ _⟩
        rw [if_neg h92] at hst
        by_cases h93 : s[P] = 93
        · rw [if_pos h93] at hst
          clear h47 h92
          by_cases hPf : P - k = 2
          · rw [if_pos hPf] at hst
            have d2 : ((P : Int) == ((k + 2 : Nat) : Int)) = true := by rw [beq_iff_eq]; omega
            have d2' : ((P : Int) == (k : Int) + 2) = true := by rw [beq_iff_eq]; omega
            have HN := Lib.hid (HC.out.trans hst)
            clear hst hPf
            go_wp2_with (fail)
            go_ret
            exact ⟨by rw [HN.out]; rfl, Below.refl _ _⟩
          · rw [if_neg hPf] at hst
            have d2 : ((P : Int) == ((k + 2 : Nat) : Int)) = false := by rw [beq_eq_false_iff_ne]; omega
            have d2' : ((P : Int) == (k : Int) + 2) = false := by rw [beq_eq_false_iff_ne]; omega
            have HN := Lib.hid (HC.out.trans hst)
            have HKP := Lib.hid (show ((k + (P - k) : Nat) : Int) = P by omega)
            clear hst hPf
            go_wp2_with (fail)
            go_ret
            exact ⟨by rw [HN.out]; show _ = Ending.returned (.int .i64 ((k + (P - k) : Nat) : Int)); rw [HKP.out]; rfl, Below.refl _ _⟩
        · rw [if_neg h93] at hst
          have HN := Lib.hid (HC.out.trans hst)
          generalize hc : s[P] = c at *
          have h47' := u8_ne (n := 47) (by omega) h47
          have h92' := u8_ne (n := 92) (by omega) h92
          have h93' := u8_ne (n := 93) (by omega) h93
          clear hst h47 h92 h93
          go_wp2_with (fail)
          go_roundw
          case rel => exact ⟨P + 1, by omega, by omega, by go_num, HN, by first | trivial | rfl⟩
          case measure => simp [intOf]; omega
      · have HN := Lib.hid (HC.out.trans (HEND.out P (by omega)))
        go_wp2_with (fail)
        go_ret
        exact ⟨by rw [HN.out]; rfl, Below.refl _ _⟩

set_option maxHeartbeats 2000000 in
set_option maxRecDepth 100000 in
theorem Check_ref (s : List UInt8) (w : World) :
    Calls Tryd.prog 25 #[.string ⟨s.toArray⟩] w (Ret w (.tuple #[.int .i64 (checkP 400 s).1, .int .i64 (checkP 400 s).2])) := by
  by_cases h0 : s = []
  · subst h0
    have HC := Lib.hid (checkP_long (m := 400) (s := []) (.inl rfl))
    go_enter Tryd.func25, Tryd.ntmps25
    go_wp2_with (fail)
    go_ret2
    exact ⟨by rw [HC.out]; rfl, Below.refl _ _⟩
  have hse : s.isEmpty = false := by cases s; exact absurd rfl h0; rfl
  by_cases h4 : 400 < s.length
  · have HC := Lib.hid (checkP_long (m := 400) (s := s) (.inr h4))
    have h4' : decide ((400 : Int) < (s.length : Int)) = true := by rw [decide_eq_true_eq]; omega
    clear h0 h4
    go_enter Tryd.func25, Tryd.ntmps25
    go_wp2_with (fail)
    go_ret2
    exact ⟨by rw [HC.out]; rfl, Below.refl _ _⟩
  have h4' : decide ((400 : Int) < (s.length : Int)) = false := by rw [decide_eq_false_iff_not]; omega
  have hno : ¬ (s = [] ∨ 400 < s.length) := by rintro (h | h); exact h0 h; exact h4 h
  have hbad := bad_ref s w (by omega)
  cases hb : badP s with
  | some k =>
    rw [hb] at hbad
    have HC := Lib.hid (checkP_bad hno hb)
    have hk0 : decide ((0 : Int) ≤ (k : Int)) = true := by simp
    have HI := Lib.hid hbad
    clear hbad hno h0 hb
    go_enter Tryd.func25, Tryd.ntmps25
    go_wp2_with (fail)
    refine HI.out.mono ?_
    rintro e w1 ⟨rfl, hw1⟩
    go_wp2_with (fail)
    go_ret2
    exact ⟨by rw [HC.out]; rfl, hw1⟩
  | none =>
    rw [hb] at hbad
    have HC := Lib.hid (checkP_loop hno hb)
    have HI := Lib.hid hbad
    have HCL := Lib.hid (fun (k : Nat) W (h : k < s.length) => closing_ref s k W h (by omega))
    have hs400 : s.length ≤ 400 := by omega
    clear hbad hno h0 hb h4
    go_enter Tryd.func25, Tryd.ntmps25
    go_wp2_with (fail)
    refine HI.out.mono ?_
    rintro e w1 ⟨rfl, hw1⟩
    have HB1 := Lib.hid hw1
    clear hw1
    go_wp2_with (fail)
    go_loopw [5, 6] (fun t5 t6 W => ∃ (k : Nat) (b : Bool), k ≤ s.length ∧ t6 = .int .i64 k ∧ t5 = .bool b ∧ Hid (checkP 400 s = loopA k b (s.drop k)) ∧ Hid (Below w.heap.size w W)) (fun _ t6 _ => s.length - (intOf t6).toNat)
    case atStart => exact ⟨0, false, by omega, rfl, rfl, Lib.hid (by rw [HC.out]; rfl), HB1⟩
    case round =>
      obtain ⟨k, b, hk, rfl, rfl, HE, HB⟩ := hrel
      have k0 : (0 : Int) ≤ k := by omega
      have e1 : IntKind.i64.wrap ((s.length : Int) - 1) = (s.length : Int) - 1 := IntWalk.i64_in _ (by omega)
      by_cases hlt : k < s.length
      · have k1 : (k : Int) < s.length := by omega
        have hdc := List.drop_eq_getElem_cons hlt
        have e5 : IntKind.i64.wrap ((k : Int) + 1) = (k : Int) + 1 := IntWalk.i64_in _ (by omega)
        have e6 : ((k : Int) + 1).toNat = k + 1 := by omega
        have e7 : (0 : Int) ≤ (k : Int) + 1 := by omega
        have hE := HE.out
        rw [hdc] at hE
        by_cases h47 : s[k] = 47
        · rw [h47, loopA_slash] at hE
          cases b with
          | false =>
            rw [if_pos (.inl rfl)] at hE
            have HZ := Lib.hid hE
            clear hE hdc HE
            go_wp2_with (fail)
            go_ret2
            exact ⟨by rw [HZ.out]; rfl, HB.out⟩
          | true =>
            by_cases hl : k = s.length - 1
            · rw [if_pos (.inr (List.drop_eq_nil_of_le (by omega)))] at hE
              have HZ := Lib.hid hE
              have d1 : ((k : Int) == (s.length : Int) - 1) = true := by rw [beq_iff_eq]; omega
              clear hE hdc HE hl
              go_wp2_with (fail)
              go_ret2
              exact ⟨by rw [HZ.out]; rfl, HB.out⟩
            · rw [if_neg (by
                rintro (h | h)
                · cases h
                · rw [List.drop_eq_nil_iff] at h; omega)] at hE
              have HZ := Lib.hid hE
              have d1 : ((k : Int) == (s.length : Int) - 1) = false := by rw [beq_eq_false_iff_ne]; omega
              clear hE hdc HE hl
              go_wp2_with (fail)
              go_roundw
              case rel => exact ⟨k + 1, false, by omega, by go_num, rfl, HZ, HB⟩
              case measure => simp [intOf]; omega
        by_cases h92 : s[k] = 92
        · rw [h92] at hE
          clear h47
          by_cases h2 : k + 1 < s.length
          · have d1 : ((k : Int) == (s.length : Int) - 1) = false := by rw [beq_eq_false_iff_ne]; omega
            have d3 : (k : Int) + 1 < s.length := by omega
            rw [List.drop_eq_getElem_cons h2, loopA_back] at hE
            by_cases h47 : s[k + 1] = 47
            · rw [if_pos h47] at hE
              have HZ := Lib.hid hE
              clear hE hdc HE
              go_wp2_with (fail)
              go_ret2
              exact ⟨by rw [HZ.out]; rfl, HB.out⟩
            · rw [if_neg h47] at hE
              have HZ := Lib.hid hE
              generalize hd : s[k + 1] = d at *
              have h47' := u8_ne (n := 47) (by omega) h47
              clear hE hdc HE h47
              go_wp2_with (fail)
              go_roundw
              case rel => exact ⟨k + 2, true, by omega, by go_num, rfl, HZ, HB⟩
              case measure => simp [intOf]; omega
          · have d1 : ((k : Int) == (s.length : Int) - 1) = true := by rw [beq_iff_eq]; omega
            rw [List.drop_eq_nil_of_le (by omega), loopA_back0] at hE
            have HZ := Lib.hid hE
            clear hE hdc HE
            go_wp2_with (fail)
            go_ret2
            exact ⟨by rw [HZ.out]; rfl, HB.out⟩
        by_cases h91 : s[k] = 91
        · have hcl := HCL.out k wr hlt
          rw [hdc, h91] at hcl
          rw [h91] at hE
          clear h47 h92
          cases hc : closeP (91 :: s.drop (k + 1)) with
          | none =>
            rw [loopA_set_none hc] at hE
            rw [hc] at hcl
            have HZ := Lib.hid hE
            have HCC := Lib.hid hcl
            clear hE hdc HE hcl hc
            go_wp2_with (fail)
            refine HCC.out.mono ?_
            rintro e w2 ⟨rfl, hw2⟩
            go_wp2_with (fail)
            go_ret2
            exact ⟨by rw [HZ.out]; rfl, HB.out.trans (hw2.mono HB.out.size)⟩
          | some e =>
            rw [loopA_set_some hc] at hE
            rw [hc] at hcl
            have hel : e < (91 :: s.drop (k + 1)).length := by
              have h1 : setFrom (91 :: s.drop (k + 1)) ≤ e ∧ e < setFrom (91 :: s.drop (k + 1)) + ((91 :: s.drop (k + 1)).drop (setFrom (91 :: s.drop (k + 1)))).length ∧ e ≠ setFrom (91 :: s.drop (k + 1)) ∧ ((91 :: s.drop (k + 1)).drop (setFrom (91 :: s.drop (k + 1)))).getD (e - setFrom (91 :: s.drop (k + 1))) 0 = 93 := closeF_le _ _ _ _ _ (Nat.le_refl _) hc
              have h2 := h1.2.1
              rw [List.length_drop] at h2
              omega
            simp only [List.length_cons, List.length_drop] at hel
            have hdd : (91 :: s.drop (k + 1)).drop (e + 1) = s.drop (k + e + 1) := by rw [List.drop_succ_cons, List.drop_drop]; congr 1; omega
            rw [hdd] at hE
            have HZ := Lib.hid hE
            have HCC := Lib.hid hcl
            have d5 : decide ((((k + e : Nat)) : Int) < 0) = false := by rw [decide_eq_false_iff_not]; omega
            have d6 : decide ((k : Int) + (e : Int) < 0) = false := by rw [decide_eq_false_iff_not]; omega
            clear hE hdc HE hcl hc hdd
            go_wp2_with (fail)
            refine HCC.out.mono ?_
            rintro e' w2 ⟨rfl, hw2⟩
            have HB2 := Lib.hid (HB.out.trans (hw2.mono HB.out.size))
            clear hw2
            simp only [clI]
            go_wp2_with (fail)
            go_roundw
            case rel => exact ⟨k + e + 1, true, by omega, by go_num, rfl, HZ, HB2⟩
            case measure => simp [intOf]; omega
        · rw [loopA_one h47 h92 h91] at hE
          have HZ := Lib.hid hE
          generalize hc : s[k] = c at *
          have h47' := u8_ne (n := 47) (by omega) h47
          have h92' := u8_ne (n := 92) (by omega) h92
          have h91' := u8_ne (n := 91) (by omega) h91
          clear hE hdc HE h47 h92 h91
          go_wp2_with (fail)
          go_roundw
          case rel => exact ⟨k + 1, true, by omega, by go_num, rfl, HZ, HB⟩
          case measure => simp [intOf]; omega
      · obtain rfl : k = s.length := by omega
        have hE := HE.out
        rw [List.drop_length, loopA_nil] at hE
        have HZ := Lib.hid hE
        clear hE HE
        go_wp2_with (fail)
        go_ret2
        exact ⟨by rw [HZ.out]; rfl, HB.out⟩
end Go.Proofs.YtgppfcaghjbjmaaDoor
