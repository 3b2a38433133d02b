/- Texts joined: GlobR3, CellMax, Tabs, Lit5, Lit6, Close, Open, Trod, Card, GlobLBase. -/
import Derived.Test.YtgppfcaghjbjmaaGreatDoorBGlobLBase5
import Derived.Deep.DeepCutAuto
import Derived.Deep.CutBlock
import Derived.Test.YtgppfcaghjbjmaaGreatDoorShelf
import Derived.Test.YtgppfcaghjbjmaaGreatDoorBLitBase1
import Derived.Shelf.Vars
import Derived.Test.YtgppfcaghjbjmaaGreatDoorBGlobLBase1
import Derived.Test.YtgppfcaghjbjmaaGreatDoorBGlobLBase4
import Derived.Test.YtgppfcaghjbjmaaGreatDoorCards
import Derived.LaidMore
import Derived.Test.YtgppfcaghjbjmaaGreatDoorBLitBase5
import Derived.ProofKit
import Derived.OpenShut
import Derived.JoinedCond
import Derived.Deep.CondSized
import Derived.ChangeArms
import Derived.Test.YtgppfcaghjbjmaaGreatDoorTie
import Derived.Deep.DeepHandedRow
import Derived.Lib.SmallJoins
set_option linter.unusedSimpArgs false
set_option linter.unusedVariables false

/- hawserref02: closing, Check. -/
section
set_option linter.unusedVariables false
namespace Go.Proofs.YtgppfcaghjbjmaaGreatDoor
open Go.RowKit Plain

namespace Plain
theorem closeS_step {s : List UInt8} {k P : Nat} (hk : k ≤ P) (h : P < s.length) : closeA (s.drop k) (P - k) =
    if s[P] = 47 then none else if s[P] = 92 then (if h2 : P + 1 < s.length then (if s[P + 1] = 47 then none else closeA (s.drop k) (P + 2 - k)) else none) else if s[P] = 93 then (if P - k = setFrom (s.drop k) then none else some (P - k)) else closeA (s.drop k) (P + 1 - k) := by
  have hl : P - k < (s.drop k).length := by simp; omega
  rw [closeA_step hl]
  have e1 : (s.drop k)[P - k] = s[P] := by rw [List.getElem_drop]; congr 1; omega
  rw [e1, show P - k + 1 = P + 1 - k by omega, show P - k + 2 = P + 2 - k by omega]
  by_cases h2 : P + 1 < s.length
  · have hl2 : P + 1 - k < (s.drop k).length := by simp; omega
    have e2 : (s.drop k)[P + 1 - k] = s[P + 1] := by rw [List.getElem_drop]; congr 1; omega
    rw [dif_pos hl2, dif_pos h2, e2]
  · rw [dif_neg (by simp; omega), dif_neg h2]
def clI (k : Nat) (o : Option Nat) : Int := match o with
  | some e => ((k + e : Nat) : Int)
  | none => -1
end Plain

set_option maxHeartbeats 2000000 in
set_option maxRecDepth 100000 in
theorem closing_ref (s : List UInt8) (k : Nat) (w : World) (hk : k < s.length) (hs : s.length ≤ 65536) :
    Calls Tryz.prog 16 #[.string ⟨s.toArray⟩, .int .i64 k] w (Ret w (.int .i64 (clI k (closeP (s.drop k))))) := by
  have hcl := closeA_closeP (s.drop k)
  have hd1 : (s.drop k).drop 1 = s.drop (k + 1) := by rw [List.drop_drop]
  obtain ⟨f, hf⟩ : ∃ f, setFrom (s.drop k) = f := ⟨_, rfl⟩
  have hfc : (f = 1 ∧ ¬ k + 1 < s.length) ∨ (f = 1 ∧ ∃ h : k + 1 < s.length, s[k + 1] ≠ 33) ∨ (f = 2 ∧ ∃ h : k + 1 < s.length, s[k + 1] = 33) := by
    rw [← hf]
    unfold setFrom
    rw [hd1]
    by_cases h : k + 1 < s.length
    · rw [List.drop_eq_getElem_cons h, List.head?_cons]
      by_cases h33 : s[k + 1] = 33
      · rw [if_pos (by rw [h33])]; exact .inr (.inr ⟨rfl, h, h33⟩)
      · rw [if_neg (by simpa using h33)]; exact .inr (.inl ⟨rfl, h, h33⟩)
    · rw [List.drop_eq_nil_of_le (by omega)]; exact .inl ⟨by simp, h⟩
  have hstep := fun P (h1 : k ≤ P) (h2 : P < s.length) => closeS_step (s := s) h1 h2
  rw [hf] at hcl hstep
  generalize closeP (s.drop k) = C at *
  generalize hG : closeA (s.drop k) = G at *
  have HCL := Lib.hid hcl
  have HST := Lib.hid hstep
  have hend := fun P (h1 : s.length ≤ P) => closeA_end (s := s.drop k) (i := P - k) (by simp; omega)
  rw [hG] at hend
  have HEND := Lib.hid hend
  have k0 : (0 : Int) ≤ k := by omega
  have e1 : IntKind.i64.wrap ((k : Int) + 1) = (k : Int) + 1 := IntWalk.i64_in _ (by omega)
  have e2 : IntKind.i64.wrap ((k : Int) + 1 + 1) = (k : Int) + 1 + 1 := IntWalk.i64_in _ (by omega)
  have e3 : ((k : Int) + 1).toNat = k + 1 := by omega
  have e4 : (0 : Int) ≤ (k : Int) + 1 := by omega
  have hfl : 1 ≤ f ∧ f ≤ 2 ∧ k + f ≤ s.length := by rcases hfc with ⟨h, _⟩ | ⟨h, h2, _⟩ | ⟨h, h2, _⟩ <;> omega
  clear hcl hstep hend hd1 hf hG
  rcases hfc with ⟨rfl, h⟩ | ⟨rfl, h, h33⟩ | ⟨rfl, h, h33⟩
  · have d1 : decide ((k : Int) + 1 < (s.length : Int)) = false := by rw [decide_eq_false_iff_not]; omega
    go_enter Tryz.func16, Tryz.ntmps16
    go_wp2_with (fail)
    clear d1
    go_loopw [6] (fun t6 W => ∃ P : Nat, k + 1 ≤ P ∧ P ≤ s.length ∧ t6 = .int .i64 P ∧ Hid (C = G (P - k)) ∧ W = w) (fun t6 _ => s.length - (intOf t6).toNat)
    case atStart => exact ⟨k + 1, by omega, by omega, rfl, Lib.hid (by rw [show k + 1 - k = 1 by omega]; exact HCL.out.symm), rfl⟩
    case round =>
      obtain ⟨P, hP1, hP2, rfl, HC, rfl⟩ := hrel
      have p0 : (0 : Int) ≤ P := by omega
      have HN := Lib.hid (HC.out.trans (HEND.out P (by omega)))
      go_wp2_with (fail)
      go_ret
      exact ⟨by rw [HN.out]; rfl, Below.refl _ _⟩
  · have d1 : (k : Int) + 1 < (s.length : Int) := by omega
    generalize hc1 : s[k + 1] = c at *
    have hq := u8_ne (n := 33) (by omega) h33
    clear h33
    go_enter Tryz.func16, Tryz.ntmps16
    go_wp2_with (fail)
    clear d1 hq hc1
    go_loopw [6] (fun t6 W => ∃ P : Nat, k + 1 ≤ P ∧ P ≤ s.length ∧ t6 = .int .i64 P ∧ Hid (C = G (P - k)) ∧ W = w) (fun t6 _ => s.length - (intOf t6).toNat)
    case atStart => exact ⟨k + 1, by omega, by omega, rfl, Lib.hid (by rw [show k + 1 - k = 1 by omega]; exact HCL.out.symm), rfl⟩
    case round =>
      obtain ⟨P, hP1, hP2, rfl, HC, rfl⟩ := hrel
      have p0 : (0 : Int) ≤ P := by omega
      by_cases hlt : P < s.length
      · have p1 : (P : Int) < s.length := by omega
        have hst := HST.out P (by omega) hlt
        have e5 : IntKind.i64.wrap ((P : Int) + 1) = (P : Int) + 1 := IntWalk.i64_in _ (by omega)
        have e6 : ((P : Int) + 1).toNat = P + 1 := by omega
        by_cases h47 : s[P] = 47
        · rw [if_pos h47] at hst
          have HN := Lib.hid (HC.out.trans hst)
          clear hst
          go_wp2_with (fail)
          go_ret
          exact ⟨by rw [HN.out]; rfl, Below.refl _ _⟩
        rw [if_neg h47] at hst
        by_cases h92 : s[P] = 92
        · rw [if_pos h92] at hst
          clear h47
          by_cases h2 : P + 1 < s.length
          · rw [dif_pos h2] at hst
            have d2 : decide ((s.length : Int) ≤ (P : Int) + 1) = false := by rw [decide_eq_false_iff_not]; omega
            have d3 : (P : Int) + 1 < s.length := by omega
            by_cases h47 : s[P + 1] = 47
            · rw [if_pos h47] at hst
              have HN := Lib.hid (HC.out.trans hst)
              clear hst
              go_wp2_with (fail)
              go_ret
              exact ⟨by rw [HN.out]; rfl, Below.refl _ _⟩
            · rw [if_neg h47] at hst
              have HN := Lib.hid (HC.out.trans hst)
              generalize hd : s[P + 1] = d at *
              have h47' := u8_ne (n := 47) (by omega) h47
              clear hst h47
              go_wp2_with (fail)
              go_roundw
              case rel => exact ⟨P + 2, by omega, by omega, by go_num, HN, by first | trivial | rfl⟩
              case measure => simp [intOf]; omega
          · rw [dif_neg h2] at hst
            have d2 : decide ((s.length : Int) ≤ (P : Int) + 1) = true := by rw [decide_eq_true_eq]; omega
            have HN := Lib.hid (HC.out.trans hst)
            clear hst
            go_wp2_with (fail)
            go_ret
            exact ⟨by rw [HN.out]; rfl, Below.refl _ _⟩
        rw [if_neg h92] at hst
        by_cases h93 : s[P] = 93
        · rw [if_pos h93] at hst
          clear h47 h92
          by_cases hPf : P - k = 1
          · rw [if_pos hPf] at hst
            have d2 : ((P : Int) == ((k + 1 : Nat) : Int)) = true := by rw [beq_iff_eq]; omega
            have d2' : ((P : Int) == (k : Int) + 1) = true := by rw [beq_iff_eq]; omega
            have HN := Lib.hid (HC.out.trans hst)
            clear hst hPf
            go_wp2_with (fail)
            go_ret
            exact ⟨by rw [HN.out]; rfl, Below.refl _ _⟩
          · rw [if_neg hPf] at hst
            have d2 : ((P : Int) == ((k + 1 : Nat) : Int)) = false := by rw [beq_eq_false_iff_ne]; omega
            have d2' : ((P : Int) == (k : Int) + 1) = false := by rw [beq_eq_false_iff_ne]; omega
            have HN := Lib.hid (HC.out.trans hst)
            have HKP := Lib.hid (show ((k + (P - k) : Nat) : Int) = P by omega)
            clear hst hPf
            go_wp2_with (fail)
            go_ret
            exact ⟨by rw [HN.out]; show _ = Ending.returned (.int .i64 ((k + (P - k) : Nat) : Int)); rw [HKP.out]; rfl, Below.refl _ _⟩
        · rw [if_neg h93] at hst
          have HN := Lib.hid (HC.out.trans hst)
          generalize hc : s[P] = c at *
          have h47' := u8_ne (n := 47) (by omega) h47
          have h92' := u8_ne (n := 92) (by omega) h92
          have h93' := u8_ne (n := 93) (by omega) h93
          clear hst h47 h92 h93
          go_wp2_with (fail)
          go_roundw
          case rel => exact ⟨P + 1, by omega, by omega, by go_num, HN, by first | trivial | rfl⟩
          case measure => simp [intOf]; omega
      · have HN := Lib.hid (HC.out.trans (HEND.out P (by omega)))
        go_wp2_with (fail)
        go_ret
        exact ⟨by rw [HN.out]; rfl, Below.refl _ _⟩
  · have d1 : (k : Int) + 1 < (s.length : Int) := by omega
    go_enter Tryz.func16, Tryz.ntmps16
    go_wp2_with (fail)
    clear d1 h33
    go_loopw [6] (fun t6 W => ∃ P : Nat, k + 2 ≤ P ∧ P ≤ s.length ∧ t6 = .int .i64 P ∧ Hid (C = G (P - k)) ∧ W = w) (fun t6 _ => s.length - (intOf t6).toNat)
    case atStart => exact ⟨k + 2, by omega, by omega, rfl, Lib.hid (by rw [show k + 2 - k = 2 by omega]; exact HCL.out.symm), rfl⟩
    case round =>
      obtain ⟨P, hP1, hP2, rfl, HC, rfl⟩ := hrel
      have p0 : (0 : Int) ≤ P := by omega
      by_cases hlt : P < s.length
      · have p1 : (P : Int) < s.length := by omega
        have hst := HST.out P (by omega) hlt
        have e5 : IntKind.i64.wrap ((P : Int) + 1) = (P : Int) + 1 := IntWalk.i64_in _ (by omega)
        have e6 : ((P : Int) + 1).toNat = P + 1 := by omega
        by_cases h47 : s[P] = 47
        · rw [if_pos h47] at hst
          have HN := Lib.hid (HC.out.trans hst)
          clear hst
          go_wp2_with (fail)
          go_ret
          exact ⟨by rw [HN.out]; rfl, Below.refl _ _⟩
        rw [if_neg h47] at hst
        by_cases h92 : s[P] = 92
        · rw [if_pos h92] at hst
          clear h47
          by_cases h2 : P + 1 < s.length
          · rw [dif_pos h2] at hst
            have d2 : decide ((s.length : Int) ≤ (P : Int) + 1) = false := by rw [decide_eq_false_iff_not]; omega
            have d3 : (P : Int) + 1 < s.length := by omega
            by_cases h47 : s[P + 1] = 47
            · rw [if_pos h47] at hst
              have HN := Lib.hid (HC.out.trans hst)
              clear hst
              go_wp2_with (fail)
              go_ret
              exact ⟨by rw [HN.out]; rfl, Below.refl _ _⟩
            · rw [if_neg h47] at hst
              have HN := Lib.hid (HC.out.trans hst)
              generalize hd : s[P + 1] = d at *
              have h47' := u8_ne (n := 47) (by omega) h47
              clear hst h47
              go_wp2_with (fail)
              go_roundw
              case rel => exact ⟨P + 2, by omega, by omega, by go_num, HN, by first | trivial | rfl⟩
              case measure => simp [intOf]; omega
          · rw [dif_neg h2] at hst
            have d2 : decide ((s.length : Int) ≤ (P : Int) + 1) = true := by rw [decide_eq_true_eq]; omega
            have HN := Lib.hid (HC.out.trans hst)
            clear hst
            go_wp2_with (fail)
            go_ret
            exact ⟨by rw [HN.out]; rfl, Below.refl _ _⟩
        rw [if_neg h92] at hst
        by_cases h93 : s[P] = 93
        · rw [if_pos h93] at hst
          clear h47 h92
          by_cases hPf : P - k = 2
          · rw [if_pos hPf] at hst
            have d2 : ((P : Int) == ((k + 2 : Nat) : Int)) = true := by rw [beq_iff_eq]; omega
            have d2' : ((P : Int) == (k : Int) + 2) = true := by rw [beq_iff_eq]; omega
            have HN := Lib.hid (HC.out.trans hst)
            clear hst hPf
            go_wp2_with (fail)
            go_ret
            exact ⟨by rw [HN.out]; rfl, Below.refl _ _⟩
          · rw [if_neg hPf] at hst
            have d2 : ((P : Int) == ((k + 2 : Nat) : Int)) = false := by rw [beq_eq_false_iff_ne]; omega
            have d2' : ((P : Int) == (k : Int) + 2) = false := by rw [beq_eq_false_iff_ne]; omega
            have HN := Lib.hid (HC.out.trans hst)
            have HKP := Lib.hid (show ((k + (P - k) : Nat) : Int) = P by omega)
            clear hst hPf
            go_wp2_with (fail)
            go_ret
            exact ⟨by rw [HN.out]; show _ = Ending.returned (.int .i64 ((k + (P - k) : Nat) : Int)); rw [HKP.out]; rfl, Below.refl _ _⟩
        · rw [if_neg h93] at hst
          have HN := Lib.hid (HC.out.trans hst)
          generalize hc : s[P] = c at *
          have h47' := u8_ne (n := 47) (by omega) h47
          have h92' := u8_ne (n := 92) (by omega) h92
          have h93' := u8_ne (n := 93) (by omega) h93
          clear hst h47 h92 h93
          go_wp2_with (fail)
          go_roundw
          case rel => exact ⟨P + 1, by omega, by omega, by go_num, HN, by first | trivial | rfl⟩
          case measure => simp [intOf]; omega
      · have HN := Lib.hid (HC.out.trans (HEND.out P (by omega)))
        go_wp2_with (fail)
        go_ret
        exact ⟨by rw [HN.out]; rfl, Below.refl _ _⟩

set_option maxHeartbeats 2000000 in
set_option maxRecDepth 100000 in
theorem Check_ref (s : List UInt8) (w : World) :
    Calls Tryz.prog 7 #[.string ⟨s.toArray⟩] w (Ret w (.tuple #[.int .i64 (checkP 400 s).1, .int .i64 (checkP 400 s).2])) := by
  by_cases h0 : s = []
  · subst h0
    have HC := Lib.hid (checkP_long (m := 400) (s := []) (.inl rfl))
    go_enter Tryz.func7, Tryz.ntmps7
    go_wp2_with (fail)
    go_ret2
    exact ⟨by rw [HC.out]; rfl, Below.refl _ _⟩
  have hse : s.isEmpty = false := by cases s; exact absurd rfl h0; rfl
  by_cases h4 : 400 < s.length
  · have HC := Lib.hid (checkP_long (m := 400) (s := s) (.inr h4))
    have h4' : decide ((400 : Int) < (s.length : Int)) = true := by rw [decide_eq_true_eq]; omega
    clear h0 h4
    go_enter Tryz.func7, Tryz.ntmps7
    go_wp2_with (fail)
    go_ret2
    exact ⟨by rw [HC.out]; rfl, Below.refl _ _⟩
  have h4' : decide ((400 : Int) < (s.length : Int)) = false := by rw [decide_eq_false_iff_not]; omega
  have hno : ¬ (s = [] ∨ 400 < s.length) := by rintro (h | h); exact h0 h; exact h4 h
  have hbad := bad_ref s w (by omega)
  cases hb : badP s with
  | some k =>
    rw [hb] at hbad
    have HC := Lib.hid (checkP_bad hno hb)
    have hk0 : decide ((0 : Int) ≤ (k : Int)) = true := by simp
    have HI := Lib.hid hbad
    clear hbad hno h0 hb
    go_enter Tryz.func7, Tryz.ntmps7
    go_wp2_with (fail)
    refine HI.out.mono ?_
    rintro e w1 ⟨rfl, hw1⟩
    go_wp2_with (fail)
    go_ret2
    exact ⟨by rw [HC.out]; rfl, hw1⟩
  | none =>
    rw [hb] at hbad
    have HC := Lib.hid (checkP_loop hno hb)
    have HI := Lib.hid hbad
    have HCL := Lib.hid (fun (k : Nat) W (h : k < s.length) => closing_ref s k W h (by omega))
    have hs400 : s.length ≤ 400 := by omega
    clear hbad hno h0 hb h4
    go_enter Tryz.func7, Tryz.ntmps7
    go_wp2_with (fail)
    refine HI.out.mono ?_
    rintro e w1 ⟨rfl, hw1⟩
    have HB1 := Lib.hid hw1
    clear hw1
    go_wp2_with (fail)
    go_loopw [5, 6] (fun t5 t6 W => ∃ (k : Nat) (b : Bool), k ≤ s.length ∧ t6 = .int .i64 k ∧ t5 = .bool b ∧ Hid (checkP 400 s = loopA k b (s.drop k)) ∧ Hid (Below w.heap.size w W)) (fun _ t6 _ => s.length - (intOf t6).toNat)
    case atStart => exact ⟨0, false, by omega, rfl, rfl, Lib.hid (by rw [HC.out]; rfl), HB1⟩
    case round =>
      obtain ⟨k, b, hk, rfl, rfl, HE, HB⟩ := hrel
      have k0 : (0 : Int) ≤ k := by omega
      have e1 : IntKind.i64.wrap ((s.length : Int) - 1) = (s.length : Int) - 1 := IntWalk.i64_in _ (by omega)
      by_cases hlt : k < s.length
      · have k1 : (k : Int) < s.length := by omega
        have hdc := List.drop_eq_getElem_cons hlt
        have e5 : IntKind.i64.wrap ((k : Int) + 1) = (k : Int) + 1 := IntWalk.i64_in _ (by omega)
        have e6 : ((k : Int) + 1).toNat = k + 1 := by omega
        have e7 : (0 : Int) ≤ (k : Int) + 1 := by omega
        have hE := HE.out
        rw [hdc] at hE
        by_cases h47 : s[k] = 47
        · rw [h47, loopA_slash] at hE
          cases b with
          | false =>
            rw [if_pos (.inl rfl)] at hE
            have HZ := Lib.hid hE
            clear hE hdc HE
            go_wp2_with (fail)
            go_ret2
            exact ⟨by rw [HZ.out]; rfl, HB.out⟩
          | true =>
            by_cases hl : k = s.length - 1
            · rw [if_pos (.inr (List.drop_eq_nil_of_le (by omega)))] at hE
              have HZ := Lib.hid hE
              have d1 : ((k : Int) == (s.length : Int) - 1) = true := by rw [beq_iff_eq]; omega
              clear hE hdc HE hl
              go_wp2_with (fail)
              go_ret2
              exact ⟨by rw [HZ.out]; rfl, HB.out⟩
            · rw [if_neg (by
                rintro (h | h)
                · cases h
                · rw [List.drop_eq_nil_iff] at h; omega)] at hE
              have HZ := Lib.hid hE
              have d1 : ((k : Int) == (s.length : Int) - 1) = false := by rw [beq_eq_false_iff_ne]; omega
              clear hE hdc HE hl
              go_wp2_with (fail)
              go_roundw
              case rel => exact ⟨k + 1, false, by omega, by go_num, rfl, HZ, HB⟩
              case measure => simp [intOf]; omega
        by_cases h92 : s[k] = 92
        · rw [h92] at hE
          clear h47
          by_cases h2 : k + 1 < s.length
          · have d1 : ((k : Int) == (s.length : Int) - 1) = false := by rw [beq_eq_false_iff_ne]; omega
            have d3 : (k : Int) + 1 < s.length := by omega
            rw [List.drop_eq_getElem_cons h2, loopA_back] at hE
            by_cases h47 : s[k + 1] = 47
            · rw [if_pos h47] at hE
              have HZ := Lib.hid hE
              clear hE hdc HE
              go_wp2_with (fail)
              go_ret2
              exact ⟨by rw [HZ.out]; rfl, HB.out⟩
            · rw [if_neg h47] at hE
              have HZ := Lib.hid hE
              generalize hd : s[k + 1] = d at *
              have h47' := u8_ne (n := 47) (by omega) h47
              clear hE hdc HE h47
              go_wp2_with (fail)
              go_roundw
              case rel => exact ⟨k + 2, true, by omega, by go_num, rfl, HZ, HB⟩
              case measure => simp [intOf]; omega
          · have d1 : ((k : Int) == (s.length : Int) - 1) = true := by rw [beq_iff_eq]; omega
            rw [List.drop_eq_nil_of_le (by omega), loopA_back0] at hE
            have HZ := Lib.hid hE
            clear hE hdc HE
            go_wp2_with (fail)
            go_ret2
            exact ⟨by rw [HZ.out]; rfl, HB.out⟩
        by_cases h91 : s[k] = 91
        · have hcl := HCL.out k wr hlt
          rw [hdc, h91] at hcl
          rw [h91] at hE
          clear h47 h92
          cases hc : closeP (91 :: s.drop (k + 1)) with
          | none =>
            rw [loopA_set_none hc] at hE
            rw [hc] at hcl
            have HZ := Lib.hid hE
            have HCC := Lib.hid hcl
            clear hE hdc HE hcl hc
            go_wp2_with (fail)
            refine HCC.out.mono ?_
            rintro e w2 ⟨rfl, hw2⟩
            go_wp2_with (fail)
            go_ret2
            exact ⟨by rw [HZ.out]; rfl, HB.out.trans (hw2.mono HB.out.size)⟩
          | some e =>
            rw [loopA_set_some hc] at hE
            rw [hc] at hcl
            have hel : e < (91 :: s.drop (k + 1)).length := by
              have h1 : setFrom (91 :: s.drop (k + 1)) ≤ e ∧ e < setFrom (91 :: s.drop (k + 1)) + ((91 :: s.drop (k + 1)).drop (setFrom (91 :: s.drop (k + 1)))).length ∧ e ≠ setFrom (91 :: s.drop (k + 1)) ∧ ((91 :: s.drop (k + 1)).drop (setFrom (91 :: s.drop (k + 1)))).getD (e - setFrom (91 :: s.drop (k + 1))) 0 = 93 := closeF_le _ _ _ _ _ (Nat.le_refl _) hc
              have h2 := h1.2.1
              rw [List.length_drop] at h2
              omega
            simp only [List.length_cons, List.length_drop] at hel
            have hdd : (91 :: s.drop (k + 1)).drop (e + 1) = s.drop (k + e + 1) := by rw [List.drop_succ_cons, List.drop_drop]; congr 1; omega
            rw [hdd] at hE
            have HZ := Lib.hid hE
            have HCC := Lib.hid hcl
            have d5 : decide ((((k + e : Nat)) : Int) < 0) = false := by rw [decide_eq_false_iff_not]; omega
            have d6 : decide ((k : Int) + (e : Int) < 0) = false := by rw [decide_eq_false_iff_not]; omega
            clear hE hdc HE hcl hc hdd
            go_wp2_with (fail)
            refine HCC.out.mono ?_
            rintro e' w2 ⟨rfl, hw2⟩
            have HB2 := Lib.hid (HB.out.trans (hw2.mono HB.out.size))
            clear hw2
            simp only [clI]
            go_wp2_with (fail)
            go_roundw
            case rel => exact ⟨k + e + 1, true, by omega, by go_num, rfl, HZ, HB2⟩
            case measure => simp [intOf]; omega
        · rw [loopA_one h47 h92 h91] at hE
          have HZ := Lib.hid hE
          generalize hc : s[k] = c at *
          have h47' := u8_ne (n := 47) (by omega) h47
          have h92' := u8_ne (n := 92) (by omega) h92
          have h91' := u8_ne (n := 91) (by omega) h91
          clear hE hdc HE h47 h92 h91
          go_wp2_with (fail)
          go_roundw
          case rel => exact ⟨k + 1, true, by omega, by go_num, rfl, HZ, HB⟩
          case measure => simp [intOf]; omega
      · obtain rfl : k = s.length := by omega
        have hE := HE.out
        rw [List.drop_length, loopA_nil] at hE
        have HZ := Lib.hid hE
        clear hE HE
        go_wp2_with (fail)
        go_ret2
        exact ⟨by rw [HZ.out]; rfl, HB.out⟩
end Go.Proofs.YtgppfcaghjbjmaaGreatDoor
end

/- A library's variable holds some int. -/
section
namespace Go.Proofs.YtgppfcaghjbjmaaGreatDoor
open Go.RowKit
theorem cell_maxLen {W : World} (hS : W.ShapedOpen Tryz.prog) : ∃ m, W.cell? ⟨2, 0, none⟩ = some (.int .i64 m) :=
  cell_of_shapedOpen_int (zero := #[.int .i64 0]) (t := 3) hS (of_decide_eq_true (by kernel_rfl)) (by kernel_rfl) rfl (by kernel_rfl) (by kernel_rfl) Tryz.underlying3
end Go.Proofs.YtgppfcaghjbjmaaGreatDoor
end

/- The listed tables, as a call may lean on them. -/
section
namespace Go.Proofs.YtgppfcaghjbjmaaGreatDoor
open Go.RowKit

theorem extra196 : Go.Proofs.U8Extra Tryz.prog lays196_ren := {
  n3 := by kernel_rfl
  n4 := by kernel_rfl
  y3 := by kernel_rfl
  y4 := by kernel_rfl
  c5 := by kernel_rfl
  c119 := by kernel_rfl
  c138 := by kernel_rfl }
theorem first_same : Lib.firstData = Rows.laid_unicode_utf8_first := by kernel_rfl
theorem accept_same : Lib.acceptData = Rows.laid_unicode_utf8_acceptRanges := by kernel_rfl
theorem tabs_of_laid {W : World} (h : laidMetH Tryz.prog [("unicode/utf8.acceptRanges", Rows.laid_unicode_utf8_acceptRanges), ("unicode/utf8.first", Rows.laid_unicode_utf8_first)] W) : Tabs W := by
  rw [MakeChecks.laidMetH_plain _ _ _ (by kernel_rfl)] at h
  obtain ⟨ps, hps, _⟩ := h
  exact Go.Proofs.utf8Tabs_of_readsT (Go.Proofs.U8Types.of196 lays196) extra196 (by rw [first_same]; exact Lib.LaidVars_reads hps _ _ (by simp)) (by rw [accept_same]; exact Lib.LaidVars_reads hps _ _ (by simp))
theorem laid_of {W : World} (hL : laidMetH Tryz.prog [("unicode/utf8.acceptRanges", Rows.laid_unicode_utf8_acceptRanges), ("unicode/utf8.first", Rows.laid_unicode_utf8_first)] W) (hS : W.ShapedOpen Tryz.prog) : ∃ m, Laid W m := by
  obtain ⟨m, hm⟩ := cell_maxLen hS
  exact ⟨m, tabs_of_laid hL, hm⟩
end Go.Proofs.YtgppfcaghjbjmaaGreatDoor
end

/- glob.Literal. -/
section
set_option linter.unusedVariables false
namespace Go.Proofs.YtgppfcaghjbjmaaGreatDoor
open Go.RowKit Plain

theorem method_bsr (g : Nat) (w : World) : (Go.method 285 104 (.pointer (some ⟨g, 0, none⟩)) "Replace").run Tryz.prog w = .ok (144, .pointer (some ⟨g, 0, none⟩)) w := by kernel_rfl

set_option maxRecDepth 100000 in
set_option maxHeartbeats 1600000 in
theorem rep_Replace (b d : Nat) (D : Option Addr) (s : List UInt8) (w : World) (hl : s.length ≤ 4096) (hb : w.heap[b]? = some (.cells (repRow 0 0 .nilIface (.slice D 8 d)) 63 (0, 0))) (hR : Reads w 1 D 8 (strs litArgs)) (hD : ∀ ad, D = some ad → ad.block ≠ b) :
    Calls Tryz.prog 19 #[.pointer (some ⟨b, 0, none⟩), .string ⟨s.toArray⟩] w fun e w' => e = .returned (.string ⟨(escM s).toArray⟩) ∧ Below b w w' := by
  have hlt : b < w.heap.size := (Array.getElem?_eq_some_iff.1 hb).1
  have hmf : ∀ (fn : Fn) (first cap : Array Value) (w : World), (Instr.makeFunc fn first cap).run Tryz.prog w = .ok (.func fn first cap) w := fun _ _ _ _ => rfl
  have HC := Lib.hid (do_lit b d D w hb hR hD)
  clear hb hR hD
  go_enter Tryz.func19, Tryz.ntmps19
  go_wp2_with (go_at_call 35; refine HC.out.mono ?_; rintro e w2 ⟨rfl, g, hT, h3, hbl⟩; have HT := Lib.hid (And.intro hT hbl); have HR := Lib.hid (bsr_Replace w.heap.size g s w2 hT hl); have hme := method_bsr g w2; clear hT hbl)
  go_wp2_with (go_at_call 144; refine HR.out.mono ?_; rintro e w3 ⟨rfl, hb3⟩)
  go_ret
  exact ⟨rfl, HT.out.2.trans (hb3.mono (by have := HT.out.2.size; omega))⟩

def litP (s : List UInt8) : List UInt8 := if pathOK s then escM s else []

theorem reads_lit8 (w : World) : Reads (w.alloc (.cells (strs litArgs).toArray 9)) 1 (some ⟨w.heap.size, 0, none⟩) 8 (strs litArgs) := by
  refine ⟨rfl, fun _ => ⟨_, rfl, fun j u hu => ?_⟩⟩
  have := cell_of_row _ _ j _ _ _ (heap_alloc_new w (.cells (strs litArgs).toArray 9))
  have e : ((⟨w.heap.size, 0, none⟩ : Addr).add j) = ⟨w.heap.size, j, none⟩ := by
    unfold Addr.add
    by_cases h : j = 0
    · rw [if_pos h, h]
    · rw [if_neg h]; simp
  rw [e, this]
  simpa using hu

set_option maxRecDepth 100000 in
set_option maxHeartbeats 1600000 in
theorem Literal_any (s : List UInt8) (w : World) (hT : Tabs w) : Calls Tryz.prog 8 #[.string ⟨s.toArray⟩] w (Ret w (.string ⟨(litP s).toArray⟩)) := by
  have HP := Lib.hid (Path_any s w hT)
  unfold litP
  clear hT
  cases hp : pathOK s with
  | false =>
    rw [hp] at HP
    rw [if_neg (by simp)]
    go_enter Tryz.func8, Tryz.ntmps8
    go_wp2_with (go_at_call 17; refine HP.out.mono ?_; rintro e w1 ⟨rfl, hb1⟩)
    go_ret
    exact ⟨rfl, hb1⟩
  | true =>
    have hl : s.length ≤ 4096 := by
      by_cases h : 400 < s.length
      · rw [pathOK_long h] at hp; cases hp
      · omega
    rw [hp] at HP
    rw [if_pos rfl]
    have HL := Lib.hid hl
    clear hp hl
    go_enter Tryz.func8, Tryz.ntmps8
    go_wp2_with (first | (go_at_call 17; refine HP.out.mono ?_; rintro e w1 ⟨rfl, hb1⟩; have HB1 := Lib.hid hb1; have HR1 := Lib.hid (reads_lit8 w1); clear hb1) | (go_at_call 18; refine (NewReplacer_lit _ _ _ HR1.out).mono ?_; rintro e w2 ⟨b, d, D, rfl, hbs, hrow, hR2, hD2, hb2⟩; have H2 := Lib.hid (And.intro hbs (And.intro hrow (And.intro hR2 (And.intro hD2 hb2)))); clear hbs hrow hR2 hb2 hD2) | (go_at_call 19; refine (rep_Replace b d D s _ HL.out H2.out.2.1 H2.out.2.2.1 (fun ad e h => by have := H2.out.2.2.2.1 ad e; omega)).mono ?_; rintro e w3 ⟨rfl, hb3⟩))
    have hsz := H2.out.1
    simp at hsz
    go_ret
    exact ⟨rfl, (HB1.out.trans (((Below.refl _ w1).alloc (Nat.le_refl _) _).mono HB1.out.size)).trans ((H2.out.2.2.2.2.mono (by simp; have := HB1.out.size; omega)).trans (hb3.mono (by have := HB1.out.size; omega)))⟩
end Go.Proofs.YtgppfcaghjbjmaaGreatDoor
end

/- hawserref02.Literal. -/
section
set_option linter.unusedVariables false
namespace Go.Proofs.YtgppfcaghjbjmaaGreatDoor
open Go.RowKit Plain

def litR (s : List UInt8) : List UInt8 := if pathOK s then escM s else []
theorem info_u8F : (Tryz.prog.info? 5).map (fun i => (i.zero, i.size, i.bytes)) = some (some (.int .u8 0), 1, 1) := by kernel_rfl

theorem cell_one (w : World) (u : Value) (e : TypeId) : (w.alloc (.cells #[u] e)).cell? ⟨w.heap.size, 0, none⟩ = some u := (cell_of_row _ _ 0 _ _ _ (heap_alloc_new w _)).trans rfl
def is8 (c : UInt8) (k : Int) (b : Bool) : Prop := ((c.toNat : Int) == k) = b
theorem keyCases (c : UInt8) (h : isKey c = true) : (is8 c 42 true) ∨ (is8 c 42 false ∧ is8 c 63 true) ∨ (is8 c 42 false ∧ is8 c 63 false ∧ is8 c 91 true) ∨ (is8 c 42 false ∧ is8 c 63 false ∧ is8 c 91 false ∧ is8 c 92 true) := by
  unfold isKey at h
  simp only [Bool.or_eq_true, beq_iff_eq] at h
  unfold is8
  rcases h with ((rfl | rfl) | rfl) | rfl
  · exact .inr (.inr (.inr ⟨rfl, rfl, rfl, rfl⟩))
  · exact .inr (.inr (.inl ⟨rfl, rfl, rfl⟩))
  · exact .inr (.inl ⟨rfl, rfl⟩)
  · exact .inl rfl
theorem noKey (c : UInt8) (h : isKey c = false) : is8 c 42 false ∧ is8 c 63 false ∧ is8 c 91 false ∧ is8 c 92 false := by
  unfold isKey at h
  simp only [Bool.or_eq_false_iff, beq_eq_false_iff_ne] at h
  obtain ⟨⟨⟨h1, h2⟩, h3⟩, h4⟩ := h
  have key : ∀ k : UInt8, c ≠ k → ((c.toNat : Int) == (k.toNat : Int)) = false := fun k hk => by
    rw [beq_eq_false_iff_ne]
    intro e
    exact hk (UInt8.toNat_inj.1 (by omega))
  exact ⟨key 42 h4, key 63 h3, key 91 h2, key 92 h1⟩

set_option maxRecDepth 100000 in
set_option maxHeartbeats 1600000 in
theorem Literal_ref (s : List UInt8) (w : World) (hs : s.length ≤ 8796093022200) : Calls Tryz.prog 9 #[.string ⟨s.toArray⟩] w (Ret w (.string ⟨(litR s).toArray⟩)) := by
  have HP := Lib.hid (Path_ref s w hs)
  unfold litR
  cases hp : pathOK s with
  | false =>
    rw [hp] at HP
    rw [if_neg (by simp)]
    go_enter Tryz.func9, Tryz.ntmps9
    go_wp2_with (go_at_call 10; refine HP.out.mono ?_; rintro e w1 ⟨rfl, hb1⟩)
    go_ret
    exact ⟨rfl, hb1⟩
  | true =>
    rw [hp] at HP
    rw [if_pos rfl]
    obtain ⟨i0, hi0, hz0, hz1, hz2⟩ := info_parts info_u8F
    have HI0 := Lib.hid hi0
    clear hi0
    go_enter Tryz.func9, Tryz.ntmps9
    go_wp2_with (go_at_call 10; refine HP.out.mono ?_; rintro e w1 ⟨rfl, hb1⟩; have HB1 := Lib.hid hb1; clear hb1)
    go_loopw [3, 4] (fun t3 t4 W => ∃ i : Nat, i ≤ s.length ∧ t4 = .int .i64 (i : Nat) ∧ Hid (OwnM W w1.heap.size 5 t3 (bytesV (escM (s.take i)))) ∧ Hid (Below w1.heap.size w1 W)) (fun _ t4 _ => s.length - (intOf t4).toNat)
    case atStart => exact ⟨0, by omega, rfl, Lib.hid (.inl ⟨rfl, rfl⟩), Lib.hid (Below.refl _ _)⟩
    case round =>
      obtain ⟨i, hi, rfl, HO, HB⟩ := hrel
      by_cases hlt : i < s.length
      · have hk0 : (0 : Int) ≤ i := by omega
        have hki : (i : Int) < s.length := by omega
        have hes := escM_take hlt
        have hel : (escM (s.take i)).length ≤ 131072 := by
          have h4 : s.length ≤ 400 := by
            by_cases h : 400 < s.length
            · rw [pathOK_long h] at hp; cases hp
            · omega
          have := countP_le s i
          rw [escM_len]
          simp
          omega
        have HM : Hid ((bytesV (escM (s.take i))).length + 1 ≤ maxLen ∧ ((bytesV (escM (s.take i))).length + 1) * 1 ≤ 140737488355328) := Lib.hid ⟨by rw [bytesV_length]; unfold maxLen; omega, by rw [bytesV_length]; omega⟩
        have HM2 : Hid ((bytesV (escM (s.take i)) ++ [Value.int .u8 92]).length + 1 ≤ maxLen ∧ ((bytesV (escM (s.take i)) ++ [Value.int .u8 92]).length + 1) * 1 ≤ 140737488355328) := Lib.hid ⟨by rw [List.length_append, bytesV_length]; unfold maxLen; simp; omega, by rw [List.length_append, bytesV_length]; simp; omega⟩
        have HS : ∀ o, Hid (w1.heap.size ≤ (wr.alloc o).heap.size) := fun o => Lib.hid (Nat.le_trans HB.out.size (by simp))
        cases hkey : isKey s[i] with
        | true =>
          rcases keyCases s[i] hkey with h1 | ⟨h1, h2⟩ | ⟨h1, h2, h3⟩ | ⟨h1, h2, h3, h4⟩
          all_goals
            unfold is8 at *
            go_wp2_with (first | (at_builtin; refine wpList_append_m rfl _ _ 37 rfl i0 _ 1 Tryz.underlying37 HI0.out hz0 hz1 hz2 rfl rfl (HO.out.alloc _) (.int .u8 92) ⟨wr.heap.size, 0, none⟩ 1 rfl (cell_one _ _ _) rfl HM.out.1 HM.out.2 (HS _).out ?_; intro v5 w5 ho5 hg5; have HO5 := Lib.hid ho5; have HB5 := Lib.hid ((HB.out.alloc HB.out.size (.cells #[.int .u8 92] 5)).grown hg5 (by simp; have := HB.out.size; omega) (fun k hk => (HO.out.lt k hk).1)); clear ho5 hg5) | (at_builtin; refine wpList_append_m rfl _ _ 37 rfl i0 _ 1 Tryz.underlying37 HI0.out hz0 hz1 hz2 rfl rfl (HO5.out.alloc _) (.int .u8 (s[i].toNat : Int)) ⟨w5.heap.size, 0, none⟩ 1 rfl (cell_one _ _ _) rfl HM2.out.1 HM2.out.2 (Nat.le_trans HB5.out.size (by simp)) ?_; intro v6 w6 ho6 hg6; have HO6 := Lib.hid ho6; have HB6 := Lib.hid ((HB5.out.alloc HB5.out.size (.cells #[.int .u8 (s[i].toNat : Int)] 5)).grown hg6 (by simp; have := HB5.out.size; omega) (fun k hk => (HO5.out.lt k hk).1)); clear ho6 hg6))
            go_roundw
            case rel => exact ⟨i + 1, by omega, by go_num, by rw [hes, show escC s[i] = [92, s[i]] by unfold escC; rw [hkey]; rfl]; exact Lib.hid (by have := HO6.out; simpa [bytesV] using this), HB6⟩
            case measure => simp [intOf]; omega
        | false =>
          obtain ⟨h1, h2, h3, h4⟩ := noKey s[i] hkey
          unfold is8 at *
          go_wp2_with (at_builtin; refine wpList_append_m rfl _ _ 37 rfl i0 _ 1 Tryz.underlying37 HI0.out hz0 hz1 hz2 rfl rfl (HO.out.alloc _) (.int .u8 (s[i].toNat : Int)) ⟨wr.heap.size, 0, none⟩ 1 rfl (cell_one _ _ _) rfl HM.out.1 HM.out.2 (Nat.le_trans HB.out.size (by simp)) ?_; intro v6 w6 ho6 hg6; have HO6 := Lib.hid ho6; have HB6 := Lib.hid ((HB.out.alloc HB.out.size (.cells #[.int .u8 (s[i].toNat : Int)] 5)).grown hg6 (by simp; have := HB.out.size; omega) (fun k hk => (HO.out.lt k hk).1)); clear ho6 hg6)
          go_roundw
          case rel => exact ⟨i + 1, by omega, by go_num, by rw [hes, show escC s[i] = [s[i]] by unfold escC; rw [hkey]; rfl]; exact Lib.hid (by have := HO6.out; simpa [bytesV] using this), HB6⟩
          case measure => simp [intOf]; omega
      · have hi' : i = s.length := by omega
        subst hi'
        rw [List.take_length] at HO
        have hcv := HO.out.back (P := Tryz.prog) 37 9 Tryz.underlying37 Tryz.underlying5 Tryz.underlying9
        go_wp2_with (fail)
        go_ret
        exact ⟨rfl, HB1.out.trans (HB.out.mono HB1.out.size)⟩
end Go.Proofs.YtgppfcaghjbjmaaGreatDoor
end

/- The closing of a law's statement: whatever the law's arguments, it answers true and leaves old memory as it was. -/
section
namespace Go.Proofs.YtgppfcaghjbjmaaGreatDoor
open Go.ChangeShapes Go.WideShapes Go.ChangeAt Go.RowKit

theorem own : ownKnob Tryz.prog.godebug = none := by kernel_rfl
theorem laidOut : laidOutB Tryz.prog = true := by kernel_rfl

section
variable {H : Type} {enc : TypeId × Value → H} {P : Program}
theorem trodAll_below (hl : laidOutB P = true) {W W' : World} (hb : Below W.heap.size W W') : ∀ {ts : List TypeId} {vs : List Value} {ds : List (DataW H)} {ps : List MemPlace},
    DataW.TrodAll enc P W 0 (fun _ => true) true ts vs ds ps → (ts.all fun t => P.readableRec t && decide (t < P.types.size)) = true → (∀ x ∈ ps, x.block < W.heap.size) →
    DataW.TrodAll enc P W' 0 (fun b => decide (b < W.heap.size)) true ts vs ds ps
  | [], [], [], _, h, _, _ => h
  | t :: ts, v :: vs, d :: ds, ps, h, hr, hlt => by
    obtain ⟨p, q, h1, h2, rfl⟩ := h
    simp only [List.all_cons, Bool.and_eq_true, decide_eq_true_eq] at hr
    exact ⟨p, q, Below.trod hl hr.1.1 hr.1.2 h1 hb (fun x hx => hlt x (List.mem_append_left _ hx)), trodAll_below hl hb h2 (by simpa using hr.2) (fun x hx => hlt x (List.mem_append_right _ hx)), rfl⟩
  | [], [], _ :: _, _, h, _, _ => h.elim
  | [], _ :: _, _, _, h, _, _ => h.elim
  | _ :: _, [], _, _, h, _, _ => h.elim
  | _ :: _, _ :: _, [], _, h, _, _ => h.elim

theorem law_post {f : Func} {s : ChangeSpec} {W W' : World} {args : Array Value} {ds gs : List (DataW H)} {before : List MemPlace} {tb : TypeId}
    (hvars : s.vars = []) (hW : DataW.Whole enc P f.params.toList s.vars false W args.toList ds gs before)
    (hfn : s.fn H (ds ++ gs) = { results := [.lit (.bool true)], args := ds }) (hres : f.resultTypes = #[tb]) (htb : P.underlying tb = some .bool)
    (hread : (f.params.toList.all fun t => P.readableRec t && decide (t < P.types.size)) = true) (hl : laidOutB P = true) (hb : Below W.heap.size W W') :
    s.post enc P f false true false false W args (.bool true) W' := by
  have hW' := hW
  obtain ⟨p, q, hA, hV, hpq, hfz, hnd⟩ := hW
  refine ⟨ds, gs, before, [], p, [], hW', ?_, ?_, ?_, ?_, fun h => by cases h⟩
  · rw [hfn, hres]
    exact trodAll_mk1 (shut_bool htb _)
  · rw [hfn]
    exact trodAll_below hl hb hA hread (fun x hx => hW'.lt x (by rw [hpq]; exact List.mem_append_left _ hx))
  · rw [hfn, hvars]
    exact rfl
  · exact hb.frame _
end

end Go.Proofs.YtgppfcaghjbjmaaGreatDoor
end

/- Opening of arguments: lists of texts; what the bound of the second form gives. -/
section
namespace Go.Proofs.YtgppfcaghjbjmaaGreatDoor
open Go.ChangeShapes Go.WideShapes Go.ChangeAt Go.RowKit

section
variable {H : Type} {enc : TypeId × Value → H} {P : Program} {w : World} {base : Nat} {held : Bool}

theorem toList_mk (s : ByteArray) : (⟨s.data.toList.toArray⟩ : ByteArray) = s := by cases s; simp

/-- A []string among the arguments: the texts that it reads as. -/
theorem open_texts {r : Reach} {b0 : Nat} {t e : TypeId} {v : Value} {d : DataW H} {ps : List MemPlace} (ht : P.underlying t = some (.slice e)) (he : P.underlying e = some .string) (hc : P.cellsOf e = 1)
    (hval : Value.okWide P w r b0 t v) (hd : DataW.Trod enc P w base (fun _ => true) held t v d ps) :
    ∃ A c, ∃ l : List (List UInt8), v = .slice A l.length c ∧ l.length ≤ c ∧ c ≤ maxLen ∧ Reads w 1 A l.length (strs l) ∧ (∀ s ∈ l, s.length ≤ maxLen) ∧
      ((d = .nil ∧ l = []) ∨ ∃ sp, d = .slice (l.map fun s => .lit (.string s)) sp) := by
  obtain ⟨a0, len, cap, rfl⟩ := okWide_slice ht hval
  obtain ⟨fuel, hf⟩ := hd
  rcases open_strings ht he hc hf with ⟨hcs, hx⟩ | ⟨a, len', cap', ss, hcs, _, hl, hm, hz, hx, hcell, hws⟩
  · simp [Value.cells] at hcs
    obtain ⟨rfl, rfl, rfl⟩ := hcs
    simp only [Prod.mk.injEq] at hx
    exact ⟨none, 0, [], rfl, Nat.le_refl _, Nat.zero_le _, Reads.nil _ _ _, by simp, .inl ⟨hx.1, rfl⟩⟩
  · simp [Value.cells] at hcs
    obtain ⟨rfl, rfl, rfl⟩ := hcs
    simp only [if_true] at hz
    simp only [Prod.mk.injEq] at hx
    have hlen : ((ss.take len).map fun s => s.data.toList).length = len := by simp; omega
    refine ⟨some a, cap, (ss.take len).map fun s => s.data.toList, by rw [hlen], by omega, hm, ⟨by rw [strs_length, Nat.mul_one], fun _ => ⟨a, rfl, fun j u hu => ?_⟩⟩, ?_, .inr ⟨_, by rw [hx.1, List.map_map]; rfl⟩⟩
    · have hj : j < len := by
        have := (List.getElem?_eq_some_iff.1 hu).1
        rw [strs_length, hlen] at this
        exact this
      rw [hcell j (by omega)]
      have hjs : j < ss.length := by omega
      rw [strs, List.map_map, List.getElem?_map, List.getElem?_take_of_lt hj, List.getElem?_eq_getElem hjs] at hu
      simp only [Option.map_some, Option.some.injEq] at hu
      rw [← hu]
      simp [strV, List.getD, hjs]
    · intro s hs
      simp only [List.mem_map] at hs
      obtain ⟨b, hb, rfl⟩ := hs
      have := hws b (List.mem_of_mem_take hb)
      simpa using this

/-! ### The bound of the second form -/
theorem bulk_one (d : DataW H) : 1 ≤ Rows.uptoBulk d := by
  cases d with
  | lit l => cases l <;> simp [Rows.uptoBulk]
  | nil => simp [Rows.uptoBulk]
  | ptr d => simp [Rows.uptoBulk]
  | slice elems spare => simp [Rows.uptoBulk]
  | agg parts => simp [Rows.uptoBulk]
  | iface t d => simp [Rows.uptoBulk]
  | map entries => simp [Rows.uptoBulk]
  | held h => simp [Rows.uptoBulk]

theorem bulk_bound {l : List (DataW H)} (hk : Rows.uptoSmall H l = true) : Rows.uptoBulkAll l ≤ 1048576 := of_decide_eq_true hk

/-- the letters and places of a list of texts -/
def weight (l : List (List UInt8)) : Nat := (l.map fun s => s.length + 1).sum
theorem bulk_texts (l : List (List UInt8)) : Rows.uptoBulkAll (l.map fun s => (DataW.lit (.string s) : DataW H)) = weight l := by
  unfold weight
  induction l with
  | nil => simp [Rows.uptoBulkAll]
  | cons s l ih => simp only [List.map_cons, Rows.uptoBulkAll, ih, Rows.uptoBulk, List.sum_cons]
theorem weight_le_bulk {l : List (List UInt8)} {d : DataW H} (h : (d = .nil ∧ l = []) ∨ ∃ sp, d = .slice (l.map fun s => .lit (.string s)) sp) : weight l ≤ Rows.uptoBulk d := by
  rcases h with ⟨rfl, rfl⟩ | ⟨sp, rfl⟩
  · simp [weight]
  · simp only [Rows.uptoBulk, bulk_texts]; omega
theorem weight_length (l : List (List UInt8)) : l.length ≤ weight l := by
  unfold weight
  induction l with
  | nil => simp
  | cons s l ih => simp only [List.length_cons, List.map_cons, List.sum_cons]; omega
theorem weight_mem {l : List (List UInt8)} {s : List UInt8} (h : s ∈ l) : s.length + 1 ≤ weight l := by
  unfold weight
  induction l with
  | nil => cases h
  | cons t l ih =>
    simp only [List.map_cons, List.sum_cons]
    rcases List.mem_cons.1 h with rfl | h
    · omega
    · have := ih h; omega
end

end Go.Proofs.YtgppfcaghjbjmaaGreatDoor
end

/- A cell that reads at a string's type. -/
section
namespace Go.Proofs.YtgppfcaghjbjmaaGreatDoor

section
variable {H : Type} {enc : TypeId × Value → H} {P : Program} {w : World} {base : Nat} {spare : Nat → Bool} {held : Bool} {t : TypeId}
/-- A cell that reads at a string's type. -/
theorem trod_str {fuel : Nat} {c : Value} {y : DataW H × List MemPlace} (ht : P.underlying t = some .string) (h : DataW.trod enc P w base spare held fuel t [c] = some y) :
    ∃ s : List UInt8, c = .string ⟨s.toArray⟩ ∧ y = (.lit (.string s), []) ∧ s.length ≤ maxLen := by
  obtain ⟨b, hb, rfl, hl⟩ := DataW.trod_string ht h
  simp only [List.cons.injEq, and_true] at hb
  subst hb
  exact ⟨b.data.toList, by cases b; simp, rfl, by simpa only [ByteArray.size, Array.length_toList] using hl⟩
end
end Go.Proofs.YtgppfcaghjbjmaaGreatDoor
end

/- The frame of a card: a world that holds the listed tables; no parameter wants a stand-in. -/
section
namespace Go.Proofs.YtgppfcaghjbjmaaGreatDoor
open Go.ChangeShapes Go.WideShapes Go.ChangeAt Go.RowKit

/-- A table's cells, off its datum. -/
def lits0 : DataW Unit → List Value
  | .lit (.int k n) => [.int k n]
  | _ => []
def lits1 : DataW Unit → List Value
  | .agg ps => ps.flatMap lits0
  | d => lits0 d
def lits2 : DataW Unit → List Value
  | .agg ps => ps.flatMap lits1
  | d => lits1 d
def layAt (h : Array Obj) (g : Nat) (d : DataW Unit) : Array Obj := h.modify g fun
  | .cells _ t frozen => .cells (lits2 d).toArray t frozen
  | o => o
/-- The settled world, the tables laid. -/
noncomputable def laidWorld (os : Os) : World :=
  { World.holding Tryz.prog os ⟨#[], #[], []⟩ with heap := layAt (layAt (World.holding Tryz.prog os ⟨#[], #[], []⟩).heap 1 Rows.laid_unicode_utf8_acceptRanges) 0 Rows.laid_unicode_utf8_first }

theorem card_plain {b : Bool} {name : String} {f0 : FuncId} {fn0 : Func} (hf0 : Tryz.pinned.checked.prog.funcNamed name = some f0) (hfn0 : Tryz.pinned.checked.prog.funcs[f0]? = some fn0) (hl : Tryz.pinned.checked.prog.looks [] = b)
    (ha : (fn0.params.toList.all fun t => !Tryz.pinned.checked.prog.wantsStandIn t) = true) (f : FuncId) (fn : Func) (hf : Tryz.pinned.checked.prog.funcNamed name = some f) (hfn : Tryz.pinned.checked.prog.funcs[f]? = some fn) :
    b = Tryz.pinned.checked.prog.looks [] ∧ ∀ (j : Nat) t, fn.params[j]? = some t → Tryz.pinned.checked.prog.wantsStandIn t = false := by
  obtain rfl : f0 = f := Option.some.inj (hf0.symm.trans hf)
  obtain rfl : fn0 = fn := Option.some.inj (hfn0.symm.trans hfn)
  refine ⟨hl.symm, fun j t ht => ?_⟩
  have hm : t ∈ fn0.params.toList := by
    rw [← Array.getElem?_toList] at ht
    exact List.mem_of_getElem? ht
  have := List.all_eq_true.1 ha t hm
  simpa using this

end Go.Proofs.YtgppfcaghjbjmaaGreatDoor
end

/- What the statements of patterns and path texts share. -/
section

end
