/- Texts joined: GlobR3, CellMax, Tabs, Lit1, Two, AppendSlice, OwnM, Loads. -/
import Derived.Test.YtgppfcaghjbjmaaGreatDoorBGlobLBase7
import Derived.Deep.DeepCutAuto
import Derived.Deep.CutBlock
import Derived.Test.YtgppfcaghjbjmaaGreatDoorShelf
import Derived.Test.YtgppfcaghjbjmaaGreatDoorBGlobLBase1
import Derived.Shelf.Vars
import Derived.Test.YtgppfcaghjbjmaaGreatDoorBGlobLBase6
import Derived.Test.YtgppfcaghjbjmaaGreatDoorCards
import Derived.LaidMore
import Derived.Tactics
import Derived.Tactics2
import Derived.Defers
import Derived.Laws.Pointers
import Derived.Laws.LoneSync
import Derived.RegionTactic
import Derived.RegionCalls
import Derived.ChangeAlike
import Derived.Test.YtgppfcaghjbjmaaGreatDoorBGlobLBase3
import Derived.OwnWalk
import Derived.ArgAppend
import Derived.Deep.Upon
import Derived.Deep.MidRow
set_option linter.unusedSimpArgs false
set_option linter.unusedVariables false

/- hawserref02: closing, Check. -/
section
set_option linter.unusedVariables false
namespace Go.Proofs.YtgppfcaghjbjmaaGreatDoor
open Go.RowKit Plain

namespace Plain
theorem closeS_step {s : List UInt8} {k P : Nat} (hk : k ≤ P) (h : P < s.length) : closeA (s.drop k) (P - k) =
    if s[P] = 47 then none else if s[P] = 92 then (if h2 : P + 1 < s.length then (if s[P + 1] = 47 then none else closeA (s.drop k) (P + 2 - k)) else none) else if s[P] = 93 then (if P - k = setFrom (s.drop k) then none else some (P - k)) else closeA (s.drop k) (P + 1 - k) := by
  have hl : P - k < (s.drop k).length := by simp; omega
  rw [closeA_step hl]
  have e1 : (s.drop k)[P - k] = s[P] := by rw [List.getElem_drop]; congr 1; omega
  rw [e1, show P - k + 1 = P + 1 - k by omega, show P - k + 2 = P + 2 - k by omega]
  by_cases h2 : P + 1 < s.length
  · have hl2 : P + 1 - k < (s.drop k).length := by simp; omega
    have e2 : (s.drop k)[P + 1 - k] = s[P + 1] := by rw [List.getElem_drop]; congr 1; omega
    rw [dif_pos hl2, dif_pos h2, e2]
  · rw [dif_neg (by simp; omega), dif_neg h2]
def clI (k : Nat) (o : Option Nat) : Int := match o with
  | some e => ((k + e : Nat) : Int)
  | none => -1
end Plain

set_option maxHeartbeats 2000000 in
set_option maxRecDepth 100000 in
theorem closing_ref (s : List UInt8) (k : Nat) (w : World) (hk : k < s.length) (hs : s.length ≤ 65536) :
    Calls Tryz.prog 16 #[.string ⟨s.toArray⟩, .int .i64 k] w (Ret w (.int .i64 (clI k (closeP (s.drop k))))) := by
  have hcl := closeA_closeP (s.drop k)
  have hd1 : (s.drop k).drop 1 = s.drop (k + 1) := by rw [List.drop_drop]
  obtain ⟨f, hf⟩ : ∃ f, setFrom (s.drop k) = f := ⟨_, rfl⟩
  have hfc : (f = 1 ∧ ¬ k + 1 < s.length) ∨ (f = 1 ∧ ∃ h : k + 1 < s.length, s[k + 1] ≠ 33) ∨ (f = 2 ∧ ∃ h : k + 1 < s.length, s[k + 1] = 33) := by
    rw [← hf]
    unfold setFrom
    rw [hd1]
    by_cases h : k + 1 < s.length
    · rw [List.drop_eq_getElem_cons h, List.head?_cons]
      by_cases h33 : s[k + 1] = 33
      · rw [if_pos (by rw [h33])]; exact .inr (.inr ⟨rfl, h, h33⟩)
      · rw [if_neg (by simpa using h33)]; exact .inr (.inl ⟨rfl, h, h33⟩)
    · rw [List.drop_eq_nil_of_le (by omega)]; exact .inl ⟨by simp, h⟩
  have hstep := fun P (h1 : k ≤ P) (h2 : P < s.length) => closeS_step (s := s) h1 h2
  rw [hf] at hcl hstep
  generalize closeP (s.drop k) = C at *
  generalize hG : closeA (s.drop k) = G at *
  have HCL := Lib.hid hcl
  have HST := Lib.hid hstep
  have hend := fun P (h1 : s.length ≤ P) => closeA_end (s := s.drop k) (i := P - k) (by simp; omega)
  rw [hG] at hend
  have HEND := Lib.hid hend
  have k0 : (0 : Int) ≤ k := by omega
  have e1 : IntKind.i64.wrap ((k : Int) + 1) = (k : Int) + 1 := IntWalk.i64_in _ (by omega)
  have e2 : IntKind.i64.wrap ((k : Int) + 1 + 1) = (k : Int) + 1 + 1 := IntWalk.i64_in _ (by omega)
  have e3 : ((k : Int) + 1).toNat = k + 1 := by omega
  have e4 : (0 : Int) ≤ (k : Int) + 1 := by omega
  have hfl : 1 ≤ f ∧ f ≤ 2 ∧ k + f ≤ s.length := by rcases hfc with ⟨h, _⟩ | ⟨h, h2, _⟩ | ⟨h, h2, _⟩ <;> omega
  clear hcl hstep hend hd1 hf hG
  rcases hfc with ⟨rfl, h⟩ | ⟨rfl, h, h33⟩ | ⟨rfl, h, h33⟩
  · have d1 : decide ((k : Int) + 1 < (s.length : Int)) = false := by rw [decide_eq_false_iff_not]; omega
    go_enter Tryz.func16, Tryz.ntmps16
    go_wp2_with (fail)
    clear d1
    go_loopw [6] (fun t6 W => ∃ P : Nat, k + 1 ≤ P ∧ P ≤ s.length ∧ t6 = .int .i64 P ∧ Hid (C = G (P - k)) ∧ W = w) (fun t6 _ => s.length - (intOf t6).toNat)
    case atStart => exact ⟨k + 1, by omega, by omega, rfl, Lib.hid (by rw [show k + 1 - k = 1 by omega]; exact HCL.out.symm), rfl⟩
    case round =>
      obtain ⟨P, hP1, hP2, rfl, HC, rfl⟩ := hrel
      have p0 : (0 : Int) ≤ P := by omega
      have HN := Lib.hid (HC.out.trans (HEND.out P (by omega)))
      go_wp2_with (fail)
      go_ret
      exact ⟨by rw [HN.out]; rfl, Below.refl _ _⟩
  · have d1 : (k : Int) + 1 < (s.length : Int) := by omega
    generalize hc1 : s[k + 1] = c at *
    have hq := u8_ne (n := 33) (by omega) h33
    clear h33
    go_enter Tryz.func16, Tryz.ntmps16
    go_wp2_with (fail)
    clear d1 hq hc1
    go_loopw [6] (fun t6 W => ∃ P : Nat, k + 1 ≤ P ∧ P ≤ s.length ∧ t6 = .int .i64 P ∧ Hid (C = G (P - k)) ∧ W = w) (fun t6 _ => s.length - (intOf t6).toNat)
    case atStart => exact ⟨k + 1, by omega, by omega, rfl, Lib.hid (by rw [show k + 1 - k = 1 by omega]; exact HCL.out.symm), rfl⟩
    case round =>
      obtain ⟨P, hP1, hP2, rfl, HC, rfl⟩ := hrel
      have p0 : (0 : Int) ≤ P := by omega
      by_cases hlt : P < s.length
      · have p1 : (P : Int) < s.length := by omega
        have hst := HST.out P (by omega) hlt
        have e5 : IntKind.i64.wrap ((P : Int) + 1) = (P : Int) + 1 := IntWalk.i64_in _ (by omega)
        have e6 : ((P : Int) + 1).toNat = P + 1 := by omega
        by_cases h47 : s[P] = 47
        · rw [if_pos h47] at hst
          have HN := Lib.hid (HC.out.trans hst)
          clear hst
          go_wp2_with (fail)
          go_ret
          exact ⟨by rw [HN.out]; rfl, Below.refl _ _⟩
        rw [if_neg h47] at hst
        by_cases h92 : s[P] = 92
        · rw [if_pos h92] at hst
          clear h47
          by_cases h2 : P + 1 < s.length
          · rw [dif_pos h2] at hst
            have d2 : decide ((s.length : Int) ≤ (P : Int) + 1) = false := by rw [decide_eq_false_iff_not]; omega
            have d3 : (P : Int) + 1 < s.length := by omega
            by_cases h47 : s[P + 1] = 47
            · rw [if_pos h47] at hst
              have HN := Lib.hid (HC.out.trans hst)
              clear hst
              go_wp2_with (fail)
              go_ret
              exact ⟨by rw [HN.out]; rfl, Below.refl _ _⟩
            · rw [if_neg h47] at hst
              have HN := Lib.hid (HC.out.trans hst)
              generalize hd : s[P + 1] = d at *
              have h47' := u8_ne (n := 47) (by omega) h47
              clear hst h47
              go_wp2_with (fail)
              go_roundw
              case rel => exact ⟨P + 2, by omega, by omega, by go_num, HN, by first | trivial | rfl⟩
              case measure => simp [intOf]; omega
          · rw [dif_neg h2] at hst
            have d2 : decide ((s.length : Int) ≤ (P : Int) + 1) = true := by rw [decide_eq_true_eq]; omega
            have HN := Lib.hid (HC.out.trans hst)
            clear hst
            go_wp2_with (fail)
            go_ret
            exact ⟨by rw [HN.out]; rfl, Below.refl _ _⟩
        rw [if_neg h92] at hst
        by_cases h93 : s[P] = 93
        · rw [if_pos h93] at hst
          clear h47 h92
          by_cases hPf : P - k = 1
          · rw [if_pos hPf] at hst
            have d2 : ((P : Int) == ((k + 1 : Nat) : Int)) = true := by rw [beq_iff_eq]; omega
            have d2' : ((P : Int) == (k : Int) + 1) = true := by rw [beq_iff_eq]; omega
            have HN := Lib.hid (HC.out.trans hst)
            clear hst hPf
            go_wp2_with (fail)
            go_ret
            exact ⟨by rw [HN.out]; rfl, Below.refl _ _⟩
          · rw [if_neg hPf] at hst
            have d2 : ((P : Int) == ((k + 1 : Nat) : Int)) = false := by rw [beq_eq_false_iff_ne]; omega
            have d2' : ((P : Int) == (k : Int) + 1) = false := by rw [beq_eq_false_iff_ne]; omega
            have HN := Lib.hid (HC.out.trans hst)
            have HKP := Lib.hid (show ((k + (P - k) : Nat) : Int) = P by omega)
            clear hst hPf
            go_wp2_with (fail)
            go_ret
            exact ⟨by rw [HN.out]; show _ = Ending.returned (.int .i64 ((k + (P - k) : Nat) : Int)); rw [HKP.out]; rfl, Below.refl _ _⟩
        · rw [if_neg h93] at hst
          have HN := Lib.hid (HC.out.trans hst)
          generalize hc : s[P] = c at *
          have h47' := u8_ne (n := 47) (by omega) h47
          have h92' := u8_ne (n := 92) (by omega) h92
          have h93' := u8_ne (n := 93) (by omega) h93
          clear hst h47 h92 h93
          go_wp2_with (fail)
          go_roundw
          case rel => exact ⟨P + 1, by omega, by omega, by go_num, HN, by first | trivial | rfl⟩
          case measure => simp [intOf]; omega
      · have HN := Lib.hid (HC.out.trans (HEND.out P (by omega)))
        go_wp2_with (fail)
        go_ret
        exact ⟨by rw [HN.out]; rfl, Below.refl _ _⟩
  · have d1 : (k : Int) + 1 < (s.length : Int) := by omega
    go_enter Tryz.func16, Tryz.ntmps16
    go_wp2_with (fail)
    clear d1 h33
    go_loopw [6] (fun t6 W => ∃ P : Nat, k + 2 ≤ P ∧ P ≤ s.length ∧ t6 = .int .i64 P ∧ Hid (C = G (P - k)) ∧ W = w) (fun t6 _ => s.length - (intOf t6).toNat)
    case atStart => exact ⟨k + 2, by omega, by omega, rfl, Lib.hid (by rw [show k + 2 - k = 2 by omega]; exact HCL.out.symm), rfl⟩
    case round =>
      obtain ⟨P, hP1, hP2, rfl, HC, rfl⟩ := hrel
      have p0 : (0 : Int) ≤ P := by omega
      by_cases hlt : P < s.length
      · have p1 : (P : Int) < s.length := by omega
        have hst := HST.out P (by omega) hlt
        have e5 : IntKind.i64.wrap ((P : Int) + 1) = (P : Int) + 1 := IntWalk.i64_in _ (by omega)
        have e6 : ((P : Int) + 1).toNat = P + 1 := by omega
        by_cases h47 : s[P] = 47
        · rw [if_pos h47] at hst
          have HN := Lib.hid (HC.out.trans hst)
          clear hst
          go_wp2_with (fail)
          go_ret
          exact ⟨by rw [HN.out]; rfl, Below.refl _ _⟩
        rw [if_neg h47] at hst
        by_cases h92 : s[P] = 92
        · rw [if_pos h92] at hst
          clear h47
          by_cases h2 : P + 1 < s.length
          · rw [dif_pos h2] at hst
            have d2 : decide ((s.length : Int) ≤ (P : Int) + 1) = false := by rw [decide_eq_false_iff_not]; omega
            have d3 : (P : Int) + 1 < s.length := by omega
            by_cases h47 : s[P + 1] = 47
            · rw [if_pos h47] at hst
              have HN := Lib.hid (HC.out.trans hst)
              clear hst
              go_wp2_with (fail)
              go_ret
              exact ⟨by rw [HN.out]; rfl, Below.refl _ _⟩
            · rw [if_neg h47] at hst
              have HN := Lib.hid (HC.out.trans hst)
              generalize hd : s[P + 1] = d at *
              have h47' := u8_ne (n := 47) (by omega) h47
              clear hst h47
              go_wp2_with (fail)
              go_roundw
              case rel => exact ⟨P + 2, by omega, by omega, by go_num, HN, by first | trivial | rfl⟩
              case measure => simp [intOf]; omega
          · rw [dif_neg h2] at hst
            have d2 : decide ((s.length : Int) ≤ (P : Int) + 1) = true := by rw [decide_eq_true_eq]; omega
            have HN := Lib.hid (HC.out.trans hst)
            clear hst
            go_wp2_with (fail)
            go_ret
            exact ⟨by rw [HN.out]; rfl, Below.refl _ _⟩
        rw [if_neg h92] at hst
        by_cases h93 : s[P] = 93
        · rw [if_pos h93] at hst
          clear h47 h92
          by_cases hPf : P - k = 2
          · rw [if_pos hPf] at hst
            have d2 : ((P : Int) == ((k + 2 : Nat) : Int)) = true := by rw [beq_iff_eq]; omega
            have d2' : ((P : Int) == (k : Int) + 2) = true := by rw [beq_iff_eq]; omega
            have HN := Lib.hid (HC.out.trans hst)
            clear hst hPf
            go_wp2_with (fail)
            go_ret
            exact ⟨by rw [HN.out]; rfl, Below.refl _ _⟩
          · rw [if_neg hPf] at hst
            have d2 : ((P : Int) == ((k + 2 : Nat) : Int)) = false := by rw [beq_eq_false_iff_ne]; omega
            have d2' : ((P : Int) == (k : Int) + 2) = false := by rw [beq_eq_false_iff_ne]; omega
            have HN := Lib.hid (HC.out.trans hst)
            have HKP := Lib.hid (show ((k + (P - k) : Nat) : Int) = P by omega)
            clear hst hPf
            go_wp2_with (fail)
            go_ret
            exact ⟨by rw [HN.out]; show _ = Ending.returned (.int .i64 ((k + (P - k) : Nat) : Int)); rw [HKP.out]; rfl, Below.refl _ _⟩
        · rw [if_neg h93] at hst
          have HN := Lib.hid (HC.out.trans hst)
          generalize hc : s[P] = c at *
          have h47' := u8_ne (n := 47) (by omega) h47
          have h92' := u8_ne (n := 92) (by omega) h92
          have h93' := u8_ne (n := 93) (by omega) h93
          clear hst h47 h92 h93
          go_wp2_with (fail)
          go_roundw
          case rel => exact ⟨P + 1, by omega, by omega, by go_num, HN, by first | trivial | rfl⟩
          case measure => simp [intOf]; omega
      · have HN := Lib.hid (HC.out.trans (HEND.out P (by omega)))
        go_wp2_with (fail)
        go_ret
        exact ⟨by rw [HN.out]; rfl, Below.refl _ _⟩

set_option maxHeartbeats 2000000 in
set_option maxRecDepth 100000 in
theorem Check_ref (s : List UInt8) (w : World) :
    Calls Tryz.prog 7 #[.string ⟨s.toArray⟩] w (Ret w (.tuple #[.int .i64 (checkP 400 s).1, .int .i64 (checkP 400 s).2])) := by
  by_cases h0 : s = []
  · subst h0
    have HC := Lib.hid (checkP_long (m := 400) (s := []) (.inl rfl))
    go_enter Tryz.func7, Tryz.ntmps7
    go_wp2_with (fail)
    go_ret2
    exact ⟨by rw [HC.out]; rfl, Below.refl _ _⟩
  have hse : s.isEmpty = false := by cases s; exact absurd rfl h0; rfl
  by_cases h4 : 400 < s.length
  · have HC := Lib.hid (checkP_long (m := 400) (s := s) (.inr h4))
    have h4' : decide ((400 : Int) < (s.length : Int)) = true := by rw [decide_eq_true_eq]; omega
    clear h0 h4
    go_enter Tryz.func7, Tryz.ntmps7
    go_wp2_with (fail)
    go_ret2
    exact ⟨by rw [HC.out]; rfl, Below.refl _ _⟩
  have h4' : decide ((400 : Int) < (s.length : Int)) = false := by rw [decide_eq_false_iff_not]; omega
  have hno : ¬ (s = [] ∨ 400 < s.length) := by rintro (h | h); exact h0 h; exact h4 h
  have hbad := bad_ref s w (by omega)
  cases hb : badP s with
  | some k =>
    rw [hb] at hbad
    have HC := Lib.hid (checkP_bad hno hb)
    have hk0 : decide ((0 : Int) ≤ (k : Int)) = true := by simp
    have HI := Lib.hid hbad
    clear hbad hno h0 hb
    go_enter Tryz.func7, Tryz.ntmps7
    go_wp2_with (fail)
    refine HI.out.mono ?_
    rintro e w1 ⟨rfl, hw1⟩
    go_wp2_with (fail)
    go_ret2
    exact ⟨by rw [HC.out]; rfl, hw1⟩
  | none =>
    rw [hb] at hbad
    have HC := Lib.hid (checkP_loop hno hb)
    have HI := Lib.hid hbad
    have HCL := Lib.hid (fun (k : Nat) W (h : k < s.length) => closing_ref s k W h (by omega))
    have hs400 : s.length ≤ 400 := by omega
    clear hbad hno h0 hb h4
    go_enter Tryz.func7, Tryz.ntmps7
    go_wp2_with (fail)
    refine HI.out.mono ?_
    rintro e w1 ⟨rfl, hw1⟩
    have HB1 := Lib.hid hw1
    clear hw1
    go_wp2_with (fail)
    go_loopw [5, 6] (fun t5 t6 W => ∃ (k : Nat) (b : Bool), k ≤ s.length ∧ t6 = .int .i64 k ∧ t5 = .bool b ∧ Hid (checkP 400 s = loopA k b (s.drop k)) ∧ Hid (Below w.heap.size w W)) (fun _ t6 _ => s.length - (intOf t6).toNat)
    case atStart => exact ⟨0, false, by omega, rfl, rfl, Lib.hid (by rw [HC.out]; rfl), HB1⟩
    case round =>
      obtain ⟨k, b, hk, rfl, rfl, HE, HB⟩ := hrel
      have k0 : (0 : Int) ≤ k := by omega
      have e1 : IntKind.i64.wrap ((s.length : Int) - 1) = (s.length : Int) - 1 := IntWalk.i64_in _ (by omega)
      by_cases hlt : k < s.length
      · have k1 : (k : Int) < s.length := by omega
        have hdc := List.drop_eq_getElem_cons hlt
        have e5 : IntKind.i64.wrap ((k : Int) + 1) = (k : Int) + 1 := IntWalk.i64_in _ (by omega)
        have e6 : ((k : Int) + 1).toNat = k + 1 := by omega
        have e7 : (0 : Int) ≤ (k : Int) + 1 := by omega
        have hE := HE.out
        rw [hdc] at hE
        by_cases h47 : s[k] = 47
        · rw [h47, loopA_slash] at hE
          cases b with
          | false =>
            rw [if_pos (.inl rfl)] at hE
            have HZ := Lib.hid hE
            clear hE hdc HE
            go_wp2_with (fail)
            go_ret2
            exact ⟨by rw [HZ.out]; rfl, HB.out⟩
          | true =>
            by_cases hl : k = s.length - 1
            · rw [if_pos (.inr (List.drop_eq_nil_of_le (by omega)))] at hE
              have HZ := Lib.hid hE
              have d1 : ((k : Int) == (s.length : Int) - 1) = true := by rw [beq_iff_eq]; omega
              clear hE hdc HE hl
              go_wp2_with (fail)
              go_ret2
              exact ⟨by rw [HZ.out]; rfl, HB.out⟩
            · rw [if_neg (by
                rintro (h | h)
                · cases h
                · rw [List.drop_eq_nil_iff] at h; omega)] at hE
              have HZ := Lib.hid hE
              have d1 : ((k : Int) == (s.length : Int) - 1) = false := by rw [beq_eq_false_iff_ne]; omega
              clear hE hdc HE hl
              go_wp2_with (fail)
              go_roundw
              case rel => exact ⟨k + 1, false, by omega, by go_num, rfl, HZ, HB⟩
              case measure => simp [intOf]; omega
        by_cases h92 : s[k] = 92
        · rw [h92] at hE
          clear h47
          by_cases h2 : k + 1 < s.length
          · have d1 : ((k : Int) == (s.length : Int) - 1) = false := by rw [beq_eq_false_iff_ne]; omega
            have d3 : (k : Int) + 1 < s.length := by omega
            rw [List.drop_eq_getElem_cons h2, loopA_back] at hE
            by_cases h47 : s[k + 1] = 47
            · rw [if_pos h47] at hE
              have HZ := Lib.hid hE
              clear hE hdc HE
              go_wp2_with (fail)
              go_ret2
              exact ⟨by rw [HZ.out]; rfl, HB.out⟩
            · rw [if_neg h47] at hE
              have HZ := Lib.hid hE
              generalize hd : s[k + 1] = d at *
              have h47' := u8_ne (n := 47) (by omega) h47
              clear hE hdc HE h47
              go_wp2_with (fail)
              go_roundw
              case rel => exact ⟨k + 2, true, by omega, by go_num, rfl, HZ, HB⟩
              case measure => simp [intOf]; omega
          · have d1 : ((k : Int) == (s.length : Int) - 1) = true := by rw [beq_iff_eq]; omega
            rw [List.drop_eq_nil_of_le (by omega), loopA_back0] at hE
            have HZ := Lib.hid hE
            clear hE hdc HE
            go_wp2_with (fail)
            go_ret2
            exact ⟨by rw [HZ.out]; rfl, HB.out⟩
        by_cases h91 : s[k] = 91
        · have hcl := HCL.out k wr hlt
          rw [hdc, h91] at hcl
          rw [h91] at hE
          clear h47 h92
          cases hc : closeP (91 :: s.drop (k + 1)) with
          | none =>
            rw [loopA_set_none hc] at hE
            rw [hc] at hcl
            have HZ := Lib.hid hE
            have HCC := Lib.hid hcl
            clear hE hdc HE hcl hc
            go_wp2_with (fail)
            refine HCC.out.mono ?_
            rintro e w2 ⟨rfl, hw2⟩
            go_wp2_with (fail)
            go_ret2
            exact ⟨by rw [HZ.out]; rfl, HB.out.trans (hw2.mono HB.out.size)⟩
          | some e =>
            rw [loopA_set_some hc] at hE
            rw [hc] at hcl
            have hel : e < (91 :: s.drop (k + 1)).length := by
              have h1 : setFrom (91 :: s.drop (k + 1)) ≤ e ∧ e < setFrom (91 :: s.drop (k + 1)) + ((91 :: s.drop (k + 1)).drop (setFrom (91 :: s.drop (k + 1)))).length ∧ e ≠ setFrom (91 :: s.drop (k + 1)) ∧ ((91 :: s.drop (k + 1)).drop (setFrom (91 :: s.drop (k + 1)))).getD (e - setFrom (91 :: s.drop (k + 1))) 0 = 93 := closeF_le _ _ _ _ _ (Nat.le_refl _) hc
              have h2 := h1.2.1
              rw [List.length_drop] at h2
              omega
            simp only [List.length_cons, List.length_drop] at hel
            have hdd : (91 :: s.drop (k + 1)).drop (e + 1) = s.drop (k + e + 1) := by rw [List.drop_succ_cons, List.drop_drop]; congr 1; omega
            rw [hdd] at hE
            have HZ := Lib.hid hE
            have HCC := Lib.hid hcl
            have d5 : decide ((((k + e : Nat)) : Int) < 0) = false := by rw [decide_eq_false_iff_not]; omega
            have d6 : decide ((k : Int) + (e : Int) < 0) = false := by rw [decide_eq_false_iff_not]; omega
            clear hE hdc HE hcl hc hdd
            go_wp2_with (fail)
            refine HCC.out.mono ?_
            rintro e' w2 ⟨rfl, hw2⟩
            have HB2 := Lib.hid (HB.out.trans (hw2.mono HB.out.size))
            clear hw2
            simp only [clI]
            go_wp2_with (fail)
            go_roundw
            case rel => exact ⟨k + e + 1, true, by omega, by go_num, rfl, HZ, HB2⟩
            case measure => simp [intOf]; omega
        · rw [loopA_one h47 h92 h91] at hE
          have HZ := Lib.hid hE
          generalize hc : s[k] = c at *
          have h47' := u8_ne (n := 47) (by omega) h47
          have h92' := u8_ne (n := 92) (by omega) h92
          have h91' := u8_ne (n := 91) (by omega) h91
          clear hE hdc HE h47 h92 h91
          go_wp2_with (fail)
          go_roundw
          case rel => exact ⟨k + 1, true, by omega, by go_num, rfl, HZ, HB⟩
          case measure => simp [intOf]; omega
      · obtain rfl : k = s.length := by omega
        have hE := HE.out
        rw [List.drop_length, loopA_nil] at hE
        have HZ := Lib.hid hE
        clear hE HE
        go_wp2_with (fail)
        go_ret2
        exact ⟨by rw [HZ.out]; rfl, HB.out⟩
end Go.Proofs.YtgppfcaghjbjmaaGreatDoor
end

/- A library's variable holds some int. -/
section
namespace Go.Proofs.YtgppfcaghjbjmaaGreatDoor
open Go.RowKit
theorem cell_maxLen {W : World} (hS : W.ShapedOpen Tryz.prog) : ∃ m, W.cell? ⟨2, 0, none⟩ = some (.int .i64 m) :=
  cell_of_shapedOpen_int (zero := #[.int .i64 0]) (t := 3) hS (of_decide_eq_true (by kernel_rfl)) (by kernel_rfl) rfl (by kernel_rfl) (by kernel_rfl) Tryz.underlying3
end Go.Proofs.YtgppfcaghjbjmaaGreatDoor
end

/- The listed tables, as a call may lean on them. -/
section
namespace Go.Proofs.YtgppfcaghjbjmaaGreatDoor
open Go.RowKit

theorem extra196 : Go.Proofs.U8Extra Tryz.prog lays196_ren := {
  n3 := by kernel_rfl
  n4 := by kernel_rfl
  y3 := by kernel_rfl
  y4 := by kernel_rfl
  c5 := by kernel_rfl
  c119 := by kernel_rfl
  c138 := by kernel_rfl }
theorem first_same : Lib.firstData = Rows.laid_unicode_utf8_first := by kernel_rfl
theorem accept_same : Lib.acceptData = Rows.laid_unicode_utf8_acceptRanges := by kernel_rfl
theorem tabs_of_laid {W : World} (h : laidMetH Tryz.prog [("unicode/utf8.acceptRanges", Rows.laid_unicode_utf8_acceptRanges), ("unicode/utf8.first", Rows.laid_unicode_utf8_first)] W) : Tabs W := by
  rw [MakeChecks.laidMetH_plain _ _ _ (by kernel_rfl)] at h
  obtain ⟨ps, hps, _⟩ := h
  exact Go.Proofs.utf8Tabs_of_readsT (Go.Proofs.U8Types.of196 lays196) extra196 (by rw [first_same]; exact Lib.LaidVars_reads hps _ _ (by simp)) (by rw [accept_same]; exact Lib.LaidVars_reads hps _ _ (by simp))
theorem laid_of {W : World} (hL : laidMetH Tryz.prog [("unicode/utf8.acceptRanges", Rows.laid_unicode_utf8_acceptRanges), ("unicode/utf8.first", Rows.laid_unicode_utf8_first)] W) (hS : W.ShapedOpen Tryz.prog) : ∃ m, Laid W m := by
  obtain ⟨m, hm⟩ := cell_maxLen hS
  exact ⟨m, tabs_of_laid hL, hm⟩
end Go.Proofs.YtgppfcaghjbjmaaGreatDoor
end

/- sync.Once at its first use, one goroutine, for a strings.Replacer: the lock, the two deferred calls. -/
section
set_option linter.unusedVariables false
namespace Go.Proofs.YtgppfcaghjbjmaaGreatDoor
open Go.RowKit

theorem disable (w : World) : (callFunc 96 #[]).run Tryz.prog w = .ok (.value (.tuple #[])) w := run_call_mark0 Tryz.func96 (by kernel_rfl) (by kernel_rfl) (by kernel_rfl) .disable (by kernel_rfl) w
theorem enable (w : World) : (callFunc 98 #[]).run Tryz.prog w = .ok (.value (.tuple #[])) w := run_call_mark0 Tryz.func98 (by kernel_rfl) (by kernel_rfl) (by kernel_rfl) .enable (by kernel_rfl) w
theorem acquire (a : Addr) (w : World) : (callFunc 99 #[.pointer (some a)]).run Tryz.prog w = .ok (.value (.tuple #[])) w := run_call_marked Tryz.func99 (by kernel_rfl) (by kernel_rfl) (by kernel_rfl) .acquire (by kernel_rfl) a w
theorem releaseMerge (a : Addr) (w : World) : (callFunc 101 #[.pointer (some a)]).run Tryz.prog w = .ok (.value (.tuple #[])) w := run_call_marked Tryz.func101 (by kernel_rfl) (by kernel_rfl) (by kernel_rfl) .releaseMerge (by kernel_rfl) a w

/-- The store of 'done', entered as a deferred call. -/
theorem store_deferred (a : Addr) (x : Value) (u : FrameMode) (w : World) (hc : w.cell? a = some x) (hz : w.frozen? a = false) :
    CallsD Tryz.prog 71 #[.pointer (some a), .bool true] u w fun e u' w' => u' = u ∧ (e = .returned (.tuple #[]) ∧ w' = w.drew.setCell a (.int .u32 1)) := by
  have hc' : w.drew.cell? a = some x := by go_simp
  have hz' : w.drew.frozen? a = false := by go_simp
  have hst := run_call_store (P := Tryz.prog) Tryz.func86 (by kernel_rfl) (by kernel_rfl) (by kernel_rfl) (by kernel_rfl) (k := .u32) (y := 1) hc' hz'
  go_enter_d Tryz.func71, Tryz.ntmps71
  go_wp2
  go_region_calls
  all_goals (go_end0; exact ⟨rfl, rfl⟩)

set_option maxRecDepth 100000 in
/-- The unlock, entered as a deferred call. -/
theorem unlock_deferred (a : Addr) (u : FrameMode) (w : World) (hc : w.cell? a = some (.int .i32 1)) (hz : w.frozen? a = false) :
    CallsD Tryz.prog 70 #[.pointer (some a)] u w fun e u' w' => u' = u ∧ (e = .returned (.tuple #[]) ∧ w' = w.setCell a (.int .i32 0)) := by
  have hd := disable
  have he := enable
  have hr := releaseMerge
  have hadd := run_call_add (P := Tryz.prog) Tryz.func102 (by kernel_rfl) (by kernel_rfl) (by kernel_rfl) .i32 (by kernel_rfl) (y := -1) (s := 0) hc hz (by simp [go_sem]; rfl)
  have hcv := run_convert_to_unsafe (P := Tryz.prog) (src := 132) (dst := 136) Tryz.underlying132 Tryz.underlying136 (by kernel_rfl) hc
  go_enter_d Tryz.func70, Tryz.ntmps70
  go_wp2
  go_end0
  go_wp2
  go_end0
  exact ⟨rfl, rfl⟩

set_option maxRecDepth 100000 in
/-- The lock, free. -/
theorem lock_free (a : Addr) (w : World) (hc : w.cell? a = some (.int .i32 0)) (hz : w.frozen? a = false) :
    Calls Tryz.prog 69 #[.pointer (some a)] w fun e w' => e = .returned (.tuple #[]) ∧ w' = w.setCell a (.int .i32 1) := by
  have hd := disable
  have he := enable
  have ha := acquire
  have hcas := run_call_cas_hit (P := Tryz.prog) Tryz.func97 (by kernel_rfl) (by kernel_rfl) (by kernel_rfl) .i32 (by kernel_rfl) (y := 1) hc hz
  have hc' : (w.setCell a (.int .i32 1)).cell? a = some (.int .i32 1) := World.cell?_setCell_same w a _ hc
  have hcv := run_convert_to_unsafe (P := Tryz.prog) (src := 132) (dst := 136) Tryz.underlying132 Tryz.underlying136 (by kernel_rfl) hc'
  go_enter Tryz.func69, Tryz.ntmps69
  go_wp2
  first | go_end0 | (simp only [Exit.inBlock, Exit.then]; refine bodyPost_ret (results_none rfl _ _ _) rfl ?_) | refine bodyPost_ret (results_none rfl _ _ _) rfl ?_
  go_wp2
  go_end0
  exact ⟨rfl, rfl⟩
end Go.Proofs.YtgppfcaghjbjmaaGreatDoor
end

/- Two slices of the call's own that grow side by side: append tells where its result lies. -/
section
namespace Go.Proofs.YtgppfcaghjbjmaaGreatDoor
open Go.RowKit

theorem own_base {w : World} {base base' : Nat} {e : TypeId} {size n : Nat} {v : Value} {xs : List Value} (h : w.ownsRow base e size v n xs) (hb : base' ≤ base) : w.ownsRow base' e size v n xs :=
  ⟨h.1, h.2.imp id fun ⟨g, cap, cur, hv, hg, hr⟩ => ⟨g, cap, cur, hv, Nat.le_trans hb hg, hr⟩⟩

/-- v' lies where v lay, or in a block that is new. -/
def Lies (w : World) (v v' : Value) : Prop := ∀ k, v'.ownBlock = some k → v.ownBlock = some k ∨ w.heap.size ≤ k
/-- no block holds both -/
def Apart (v u : Value) : Prop := ∀ k, v.ownBlock = some k → u.ownBlock ≠ some k
theorem Apart.symm {v u : Value} (h : Apart v u) : Apart u v := fun k hu hv => h k hv hu
theorem Apart.nil (u : Value) (n c : Nat) : Apart (.slice none n c) u := fun k h => by cases h
theorem Apart.lies {w : World} {v v' u : Value} {base : Nat} {e : TypeId} {size n : Nat} {xs : List Value} (h : Apart v u) (hl : Lies w v v') (hu : w.ownsRow base e size u n xs) : Apart v' u := by
  intro k hk he
  rcases hl k hk with h1 | h1
  · exact h k h1 he
  · have := (hu.lt k he).2; omega
theorem Apart.kept {w w' : World} {v u : Value} {base : Nat} {e : TypeId} {size n : Nat} {xs : List Value} (h : Apart v u) (hu : w.ownsRow base e size u n xs) (hg : w.grownBy w' v.ownBlock) : w'.ownsRow base e size u n xs :=
  hu.kept hg (by
    cases hv : u.ownBlock with
    | none => exact .inl rfl
    | some k => exact .inr (fun e => h k e.symm hv))

theorem wpList_append_two {P : Program} {w : World} {ops : Array Oper} {rest : List Oper} {o : Oper} {a : Act} {Q : Exit → Act → World → Prop} (hgd : o.guard = none) (s x : Operand) (t : TypeId)
    (ho : o.op = .call { callee := .builtin .append, args := #[s, x], argTypes := #[t, t] })
    (base : Nat) (e : TypeId) (i : TypeInfo) (z : Value) (size bytes : Nat) (ht : P.underlying t = some (.slice e)) (hi : P.info? e = some i) (hz : i.zero = some z)
    (hsize : i.size = size) (hby : i.bytes = bytes) (hzs : z.cells.size = size) (hsz : 0 < size)
    (v : Value) (n : Nat) (xs : List Value) (hs : a.eval s = v) (hown : w.ownsRow base e size v n xs)
    (ad : Addr) (m c : Nat) (news : List Value) (hx : a.eval x = .slice (some ad) m c) (hl : news.length = m * size) (hnews : ∀ j u, news[j]? = some u → w.cell? (ad.add j) = some u) (h1 : ∀ u ∈ news, u.oneCell' = true)
    (h63 : n + m ≤ maxLen) (hbytes : (n + m) * bytes ≤ 140737488355328) (hbase : base ≤ w.heap.size)
    (h : ∀ v' w', w'.ownsRow base e size v' (n + m) (xs ++ news) → w.grownBy w' v.ownBlock → Lies w v v' → wpList P ops Q rest (a.put o.dst v') w') : wpList P ops Q (o :: rest) a w := by
  rcases hown.2 with ⟨hv, hn⟩ | ⟨g, cap, cur, hv, hbg, hg, hnc, hcm, hcs, htake⟩
  · subst hv
    subst hn
    have hx0 : xs = [] := List.eq_nil_of_length_eq_zero (by simpa using hown.1)
    subst hx0
    exact wpList_append_own w hgd s x t ho w.heap.size e i z size bytes ht hi hz hsize hby hzs hsz _ _ _ hs (World.ownsRow_nil _ _ _ _) ad m c news hx hl hnews h1 h63 hbytes (Nat.le_refl _)
      fun v' w' h2 h3 _ => h v' w' (own_base h2 hbase) h3 (fun k hk => .inr (h2.lt k hk).1)
  · subst hv
    by_cases hroom : n + m ≤ cap
    · exact wpList_append_fits w hgd s x t ho base e i size ht hi hsize g n cap xs hs hown ad m c news hx hl hnews h1 hroom fun w' h2 h3 => h _ w' h2 h3 (fun k hk => .inl hk)
    · exact wpList_append_grows w hgd s x t ho e i z size bytes ht hi hz hsize hby hzs hsz (some ⟨g, 0, none⟩) n cap xs hs (fun e => by cases e) hown.1 (fun b hb j u hu => by
        injection hb with hb
        subst hb
        exact hown.cells (g := g) rfl j u hu) ad m c news hx hl hnews h1 (by omega) h63 hbytes
        fun v' w' h2 h3 => h v' w' (own_base h2 hbase) ⟨h3.os, h3.tape, h3.output, h3.size, fun k hk _ => h3.block k hk (by simp)⟩ (fun k hk => .inr (h2.lt k hk).1)
end Go.Proofs.YtgppfcaghjbjmaaGreatDoor
end

/- append(s, x...): a slice (it may be nil) behind a row of the call's own. -/
section
namespace Go.Proofs.YtgppfcaghjbjmaaGreatDoor
open Go.RowKit

theorem wpList_append_slice {P : Program} {w : World} {ops : Array Oper} {rest : List Oper} {o : Oper} {a : Act} {Q : Exit → Act → World → Prop} (hgd : o.guard = none) (s x : Operand) (t : TypeId)
    (ho : o.op = .call { callee := .builtin .append, args := #[s, x], argTypes := #[t, t] })
    (base : Nat) (e : TypeId) (i : TypeInfo) (z : Value) (size bytes : Nat) (ht : P.underlying t = some (.slice e)) (hi : P.info? e = some i) (hz : i.zero = some z)
    (hsize : i.size = size) (hby : i.bytes = bytes) (hzs : z.cells.size = size) (hsz : 0 < size)
    (A : Option Addr) (n cap : Nat) (xs : List Value) (hs : a.eval s = .slice A n cap) (hown : w.ownsRow base e size (.slice A n cap) n xs)
    (X : Option Addr) (m c : Nat) (news : List Value) (hx : a.eval x = .slice X m c) (hl : Reads w size X m news) (h1 : ∀ u ∈ news, u.oneCell' = true)
    (h63 : n + m ≤ maxLen) (hbytes : (n + m) * bytes ≤ 140737488355328) (hbase : base ≤ w.heap.size)
    (h : ∀ A' cap' w', w'.ownsRow base e size (.slice A' (n + m) cap') (n + m) (xs ++ news) → w.grownBy w' (Value.slice A n cap).ownBlock → wpList P ops Q rest (a.put o.dst (.slice A' (n + m) cap')) w') : wpList P ops Q (o :: rest) a w := by
  cases X with
  | none =>
    have hm : m = 0 := by
      rcases Nat.eq_zero_or_pos m with h0 | h0
      · exact h0
      · obtain ⟨ad, e, -⟩ := hl.2 h0; cases e
    subst hm
    have hn : news = [] := List.eq_nil_of_length_eq_zero (by have := hl.1; simpa using this)
    subst hn
    have hle : n ≤ cap := by
      rcases hown.2 with ⟨hv, h0⟩ | ⟨g, cp, cur, hv, _, _, hc, _⟩
      · omega
      · injection hv with h1 h2 h3; omega
    have hr := run_append_nothing w t t o.type e i ht hi A n cap hle (.slice none 0 c) (Src.ofNil w ht c)
    have h2 := h A cap w (by rw [List.append_nil]; exact hown) (gb_refl w _)
    refine wpList_plain hgd fun _ hK => ?_
    unfold Oper.wp execOp
    simp only [ho, resolve, invoke, builtin, Sem.run_bind, Sem.run_pure, Result.andThen_ok, List.map_toArray, List.map_cons, List.map_nil, hs, hx, hr]
    exact hK _ _ h2
  | some ad =>
    by_cases hm : 0 < m
    · obtain ⟨ad', e1, hc⟩ := hl.2 hm
      injection e1 with e1
      subst e1
      refine wpList_append_two hgd s x t ho base e i z size bytes ht hi hz hsize hby hzs hsz _ n xs hs hown ad m c news hx hl.1 hc h1 h63 hbytes hbase fun v' w' h2 h3 _ => ?_
      obtain ⟨A', c', rfl, -⟩ := IsSlice.of_own h2
      exact h A' c' w' h2 h3
    · have hm0 : m = 0 := by omega
      subst hm0
      have hn : news = [] := List.eq_nil_of_length_eq_zero (by have := hl.1; simpa using this)
      subst hn
      refine wpList_append_two hgd s x t ho base e i z size bytes ht hi hz hsize hby hzs hsz _ n xs hs hown ad 0 c [] hx (by simp) (fun j u hu => by simp at hu) h1 h63 hbytes hbase fun v' w' h2 h3 _ => ?_
      obtain ⟨A', c', rfl, -⟩ := IsSlice.of_own h2
      exact h A' c' w' h2 h3
end Go.Proofs.YtgppfcaghjbjmaaGreatDoor
end

/- A row of the call's own that came of a conversion: its mark stands behind its cells; append onto it. -/
section
namespace Go.Proofs.YtgppfcaghjbjmaaGreatDoor
open Go.RowKit

/-- v is nil, or a row of the call's own (with the mark of a conversion, or with none) that begins with xs. -/
def OwnM (w : World) (base : Nat) (e : TypeId) (v : Value) (xs : List Value) : Prop :=
  (v = .slice none 0 0 ∧ xs = []) ∨ ∃ g cap cur fz, v = .slice (some ⟨g, 0, none⟩) xs.length cap ∧ base ≤ g ∧ w.heap[g]? = some (.cells cur e fz) ∧ xs.length ≤ cap ∧ cap ≤ maxLen ∧ cur.size = cap ∧ cur.toList.take xs.length = xs ∧ (fz = (0, 0) ∨ fz = (cap, cap + 1))
section
variable {w w' : World} {base : Nat} {e : TypeId} {v : Value} {xs : List Value}
theorem OwnM.of_own {n : Nat} (h : w.ownsRow base e 1 v n xs) : OwnM w base e v xs := by
  have hn := h.1
  rcases h.2 with ⟨rfl, h0⟩ | ⟨g, cap, cur, rfl, hb, hg, hnc, hcm, hcs, ht⟩
  · exact .inl ⟨rfl, List.eq_nil_of_length_eq_zero (by omega)⟩
  · exact .inr ⟨g, cap, cur, (0, 0), by rw [show xs.length = n by omega], hb, hg, by omega, hcm, by omega, by rw [show xs.length = n * 1 by omega]; exact ht, .inl rfl⟩
theorem OwnM.lt (h : OwnM w base e v xs) : ∀ k, v.ownBlock = some k → base ≤ k ∧ k < w.heap.size := by
  intro k hk
  rcases h with ⟨rfl, _⟩ | ⟨g, cap, cur, fz, rfl, hb, hg, _⟩
  · cases hk
  · simp only [Value.ownBlock, Option.some.injEq] at hk
    subst hk
    exact ⟨hb, (Array.getElem?_eq_some_iff.1 hg).1⟩
theorem OwnM.alloc (h : OwnM w base e v xs) (o : Obj) : OwnM (w.alloc o) base e v xs :=
  h.imp id fun ⟨g, cap, cur, fz, hv, hb, hg, hr⟩ => ⟨g, cap, cur, fz, hv, hb, by rw [Below.heap_alloc _ _ _ (Array.getElem?_eq_some_iff.1 hg).1]; exact hg, hr⟩
theorem OwnM.below (h : OwnM w base e v xs) (hb : Below w.heap.size w w') : OwnM w' base e v xs :=
  h.imp id fun ⟨g, cap, cur, fz, hv, hbg, hg, hr⟩ => ⟨g, cap, cur, fz, hv, hbg, by rw [hb.block g (Array.getElem?_eq_some_iff.1 hg).1]; exact hg, hr⟩
theorem OwnM.form (h : OwnM w base e v xs) : ∃ A c, v = .slice A xs.length c ∧ xs.length ≤ c ∧ c ≤ maxLen := by
  rcases h with ⟨rfl, rfl⟩ | ⟨g, cap, cur, fz, rfl, hb, hg, hnc, hcm, _⟩
  · exact ⟨none, 0, rfl, by simp, by unfold maxLen; omega⟩
  · exact ⟨_, _, rfl, hnc, hcm⟩
theorem OwnM.back {P : Program} {l : List UInt8} (src dst : TypeId) (hs : P.underlying src = some (.slice e)) (he : P.underlying e = some (.int .u8)) (hd : P.underlying dst = some .string) (h : OwnM w base e v (bytesV l)) :
    (convert src dst v).run P w = .ok (.string ⟨l.toArray⟩) w := by
  rcases h with ⟨rfl, hx⟩ | ⟨g, cap, cur, fz, rfl, hb, hg, hnc, hcm, hcs, ht, _⟩
  · have : l = [] := List.eq_nil_of_length_eq_zero (by have := congrArg List.length hx; simpa [bytesV_length] using this)
    subst this
    exact run_convert_bytes_nil w src e hs he 0 0 dst hd
  · refine conv_back w src dst e hs he hd l g _ cap (bytesV_length l) cur fz hg (fun j hj => ?_)
    have h1 : (bytesV l)[j]? = some (.int .u8 (l[j].toNat : Int)) := by simp [bytesV, hj]
    rw [← ht, List.getElem?_take] at h1
    split at h1
    · simpa using h1
    · cases h1

/-- '[]byte(s)' -/
theorem conv_bytes_m {P : Program} (w : World) (src dst e : TypeId) (hs : P.underlying src = some .string) (hd : P.underlying dst = some (.slice e)) (he : P.underlying e = some (.int .u8)) (l : List UInt8) (hl : l.length ≤ maxLen) :
    ∃ cap C, (convert src dst (.string ⟨l.toArray⟩)).run P w = .ok (.slice (some ⟨w.heap.size, 0, none⟩) l.length cap) (w.alloc (.cells C e (cap, cap + 1))).drew ∧
      OwnM (w.alloc (.cells C e (cap, cap + 1))).drew w.heap.size e (.slice (some ⟨w.heap.size, 0, none⟩) l.length cap) (bytesV l) := by
  have h := run_bytes_of_string (P := P) w src dst e ⟨l.toArray⟩ hs hd he
  have hsz : (ByteArray.mk l.toArray).size = l.length := by simp [ByteArray.size]
  have hge := grownCap_ge w (ByteArray.mk l.toArray).size 0 e
  have hle := grownCap_le_maxLen w (ByteArray.mk l.toArray).size 0 e (by rw [hsz]; exact hl)
  rw [hsz] at h hge hle
  have hsize : (bytesRow ⟨l.toArray⟩ (grownCap w l.length 0 e)).size = grownCap w l.length 0 e := by simp [bytesRow, hsz]; omega
  rw [hsize] at h
  refine ⟨_, _, h, .inr ⟨w.heap.size, _, _, _, by rw [bytesV_length], Nat.le_refl _, heap_alloc_new w _, by rw [bytesV_length]; exact hge, hle, hsize, ?_, .inr rfl⟩⟩
  rw [bytesV_length]
  unfold bytesRow
  rw [Array.toList_append, List.take_append_of_le_length (by simp), List.take_of_length_le (by simp)]
  simp [bytesV]

theorem frozen_row' {g cap j : Nat} {C : Array Value} {fz : Nat × Nat} (hb : w.heap[g]? = some (.cells C e fz)) (hfz : fz = (0, 0) ∨ fz = (cap, cap + 1)) (h : j < cap) : w.frozen? ⟨g, j, none⟩ = false := by
  unfold World.frozen?
  rw [hb]
  rcases hfz with rfl | rfl <;> simp <;> omega

/-- append of one cell -/
theorem wpList_append_m {P : Program} {ops : Array Oper} {rest : List Oper} {o : Oper} {a : Act} {Q : Exit → Act → World → Prop} (hgd : o.guard = none) (s x : Operand) (t : TypeId)
    (ho : o.op = .call { callee := .builtin .append, args := #[s, x], argTypes := #[t, t] })
    (i : TypeInfo) (z : Value) (bytes : Nat) (ht : P.underlying t = some (.slice e)) (hi : P.info? e = some i) (hz : i.zero = some z)
    (hsize : i.size = 1) (hby : i.bytes = bytes) (hzs : z.cells.size = 1)
    (hs : a.eval s = v) (hown : OwnM w base e v xs) (u : Value)
    (ad : Addr) (c : Nat) (hx : a.eval x = .slice (some ad) 1 c) (hnew : w.cell? ad = some u) (h1 : u.oneCell' = true)
    (h63 : xs.length + 1 ≤ maxLen) (hbytes : (xs.length + 1) * bytes ≤ 140737488355328) (hbase : base ≤ w.heap.size)
    (h : ∀ v' w', OwnM w' base e v' (xs ++ [u]) → w.grownBy w' v.ownBlock → wpList P ops Q rest (a.put o.dst v') w') : wpList P ops Q (o :: rest) a w := by
  have hnews : ∀ j v, [u][j]? = some v → w.cell? (ad.add j) = some v := by
    intro j v hj
    match j, hj with
    | 0, hj => simp at hj; subst hj; simpa [Addr.add] using hnew
  rcases hown with ⟨rfl, rfl⟩ | ⟨g, cap, cur, fz, rfl, hbg, hg, hnc, hcm, hcs, htk, hfz⟩
  · exact wpList_append_own w hgd s x t ho base e i z 1 bytes ht hi hz hsize hby hzs (by omega) _ _ _ hs (World.ownsRow_nil _ _ _ _) ad 1 c [u] hx rfl hnews (one_oneCell h1) (by simpa using h63) (by simpa using hbytes) hbase
      fun v' w' h2 h3 _ => h v' w' (OwnM.of_own h2) h3
  · have hcell : ∀ j y, xs[j]? = some y → w.cell? ⟨g, 0 + j, none⟩ = some y := by
      intro j y hj
      rw [Nat.zero_add, cell_of_row _ _ _ cur e fz hg]
      rw [← htk, List.getElem?_take] at hj
      split at hj
      · simpa using hj
      · cases hj
    refine wpList_append_arg w hgd s x t ho e i z 1 bytes ht hi hz hsize hby hzs (by omega) g 0 xs.length cap xs hs (by omega) hcell ad 1 c [u] hx rfl hnews (one_oneCell h1) ?_ h63 hbytes ?_ ?_
    · intro hr j hj
      obtain rfl : j = 0 := by simpa using hj
      refine ⟨?_, frozen_row' hg hfz (by omega)⟩
      rw [cell_of_row _ _ _ cur e fz hg]
      simp; omega
    · intro hr
      have hset : w.setCells g (0 + xs.length * 1) [u] = w.setCell ⟨g, xs.length, none⟩ u := by simp [World.setCells]
      rw [hset]
      refine h _ _ (.inr ⟨g, cap, _, fz, by simp, hbg, heap_set hg _ _, by simpa using hr, hcm, by simpa using hcs, ?_, hfz⟩) (gb_set (gb_refl _ _) (.inl rfl) _)
      rw [Array.toList_setIfInBounds, List.length_append, List.length_singleton, List.take_succ_eq_append_getElem (by simp; omega), List.take_set_of_le (Nat.le_refl _), htk]
      simp
    · intro hr v' w' h2 h3
      exact h _ _ (OwnM.of_own (by
        have := h2
        exact ⟨this.1, this.2.imp id fun ⟨g', cap', cur', hv, hb', hrest⟩ => ⟨g', cap', cur', hv, by omega, hrest⟩⟩)) ⟨h3.os, h3.tape, h3.output, h3.size, fun k hk _ => h3.block k hk (by simp)⟩
end
end Go.Proofs.YtgppfcaghjbjmaaGreatDoor
end

/- Loads of a struct, and of a cell, in a region that draws its order. -/
section
namespace Go.Proofs.YtgppfcaghjbjmaaGreatDoor
open Go.RowKit

/-- A load of a whole struct, and of one cell, in a region that draws its order, whose calls keep old memory. -/
theorem quiet_load_row {P : Program} {w : World} {o : Oper} {a : Act} {K : Act → Prop} (ty : TypeId) (x : Operand) (ho : o.op = .load ty x)
    (g : Nat) (hx : a.eval x = .pointer (some ⟨g, 0, none⟩)) (t : TypeId) (cs : Array Value) (fr : Nat × Nat) (d : TypeDesc) (hg : w.heap[g]? = some (.cells cs t fr))
    (hu : P.underlying ty = some d) (hd : (match d with | .struct _ | .array _ _ => true | _ => false) = true) (hi : (P.info? ty).map (·.size) = some cs.size)
    (h : K (a.put o.dst (.agg cs))) : o.quiet P a (fun W => Below w.heap.size w W) K := by
  refine ⟨.agg cs, fun W hW => ?_, h⟩
  have hgW : W.heap[g]? = some (.cells cs t fr) := by rw [hW.block g (Array.getElem?_eq_some_iff.1 hg).1]; exact hg
  unfold Oper.quietAt execOp
  simp only [ho, hx, Instr.loadAt, Instr.sureAddr, Sem.run_bind, Sem.run_pure, Result.andThen_ok, run_loadVar_row W g t ty cs fr d hgW hu hd hi]
  exact ⟨rfl, rfl⟩
theorem quiet_load_cell {P : Program} {w : World} {o : Oper} {a : Act} {K : Act → Prop} (ty : TypeId) (x : Operand) (ho : o.op = .load ty x)
    (p : Addr) (hx : a.eval x = .pointer (some p)) (v : Value) (d : TypeDesc) (hc : w.cell? p = some v)
    (hu : P.underlying ty = some d) (hd : (match d with | .struct _ | .array _ _ => true | _ => false) = false)
    (h : K (a.put o.dst v)) : o.quiet P a (fun W => Below w.heap.size w W) K := by
  refine ⟨v, fun W hW => ?_, h⟩
  have hcW : W.cell? p = some v := by rw [hW.cell (World.block_lt_of_cell? _ _ hc)]; exact hc
  have hagg : (isAgg ty).run P W = .ok false W := by
    unfold isAgg
    rw [Sem.run_bind, run_underlying hu W]
    cases d <;> simp_all
  unfold Oper.quietAt execOp
  simp only [ho, hx, Instr.loadAt, Instr.sureAddr, Sem.run_bind, Sem.run_pure, Result.andThen_ok, loadVar, hagg]
  simp [go_sem, hcW, Oper.quietUpon]
/-- A load of a part of a row. -/
theorem quiet_load_mid {P : Program} {w : World} {o : Oper} {a : Act} {K : Act → Prop} (ty : TypeId) (x : Operand) (ho : o.op = .load ty x)
    (b f : Nat) (hx : a.eval x = .pointer (some ⟨b, f, none⟩)) (cs : List Value) (d : TypeDesc) (hc : w.rangeAt b f cs) (hb : b < w.heap.size)
    (hu : P.underlying ty = some d) (hd : d.isRow = true) (hi : (P.info? ty).map (·.size) = some cs.length)
    (h : K (a.put o.dst (.agg cs.toArray))) : o.quiet P a (fun W => Below w.heap.size w W) K := by
  refine ⟨.agg cs.toArray, fun W hW => ?_, h⟩
  have hcW : W.rangeAt b f cs := fun j v hv => by rw [hW.cell hb]; exact hc j v hv
  unfold Oper.quietAt execOp
  simp only [ho, hx, Instr.loadAt, Instr.sureAddr, Sem.run_bind, Sem.run_pure, Result.andThen_ok, run_loadVar_mid W b f ty cs d hcW hu hd hi]
  exact ⟨rfl, rfl⟩
end Go.Proofs.YtgppfcaghjbjmaaGreatDoor
end
