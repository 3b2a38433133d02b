/- name.Name. -/
import Derived.Test.YtgppfcaghjbjmaaDoorValid
import Derived.Test.YtgppfcaghjbjmaaDoorAnyIdx
import Derived.Test.YtgppfcaghjbjmaaDoorPlain01
namespace Go.Proofs.YtgppfcaghjbjmaaDoor
open Go.RowKit Plain

theorem nameOK_any (s : List UInt8) : nameOK s = (!s.isEmpty && decide (s.length ≤ 64) && !(s == [46]) && !(s == [46, 46]) && Lib.validD s && !anyM s) := by
  unfold nameOK anyM
  rw [Bool.not_or, ← Bool.and_assoc]

set_option maxHeartbeats 1000000 in
theorem Name_any (s : List UInt8) (w : World) (hT : Tabs w) :
    Calls Tryd.prog 39 #[.string ⟨s.toArray⟩] w (Ret w (.bool (nameOK s))) := by
  rw [nameOK_any]
  by_cases h1 : s.length ≤ 64
  · have hc1 : decide ((s.length : Int) ≤ 64) = true := by simp; omega
    have hc1' : decide (s.length ≤ 64) = true := by simp; omega
    rw [hc1']
    have HV := Lib.hid (ValidString_any s w (by omega) hT)
    have HA := Lib.hid (fun W => ContainsAny_any s W (by omega))
    generalize Lib.validD s = bv at *
    generalize anyM s = ba at *
    clear hc1'
    obtain ⟨b0, h0⟩ : ∃ b, s.isEmpty = b := ⟨_, rfl⟩
    obtain ⟨b2, h2⟩ : ∃ b, (s == [46]) = b := ⟨_, rfl⟩
    obtain ⟨b3, h3⟩ : ∃ b, (s == [46, 46]) = b := ⟨_, rfl⟩
    rw [h0, h2, h3]
    cases b0 with
    | true =>
      go_enter Tryd.func39, Tryd.ntmps39
      go_wp2_with (fail)
      go_ret
      exact ⟨rfl, Below.refl _ _⟩
    | false =>
      cases b2 with
      | true =>
        go_enter Tryd.func39, Tryd.ntmps39
        go_wp2_with (fail)
        go_ret
        exact ⟨rfl, Below.refl _ _⟩
      | false =>
        cases b3 with
        | true =>
          go_enter Tryd.func39, Tryd.ntmps39
          go_wp2_with (fail)
          go_ret
          exact ⟨rfl, Below.refl _ _⟩
        | false =>
          cases bv with
          | false =>
            go_enter Tryd.func39, Tryd.ntmps39
            go_wp2_with (fail)
            refine HV.out.mono ?_
            rintro e w1 ⟨rfl, hw1⟩
            go_wp2_with (fail)
            go_ret
            exact ⟨rfl, hw1⟩
          | true =>
            go_enter Tryd.func39, Tryd.ntmps39
            go_wp2_with (fail)
            refine HV.out.mono ?_
            rintro e w1 ⟨rfl, hw1⟩
            go_wp2_with (fail)
            refine (HA.out w1).mono ?_
            rintro e w2 ⟨rfl, hw2⟩
            go_wp2_with (fail)
            go_ret
            exact ⟨by simp, hw1.trans (hw2.mono hw1.size)⟩
  · have hc1 : decide ((s.length : Int) ≤ 64) = false := by simp; omega
    have hc1' : decide (s.length ≤ 64) = false := by simp; omega
    rw [hc1']
    have h0 : s.isEmpty = false := by cases s; simp at h1; rfl
    clear hc1'
    go_enter Tryd.func39, Tryd.ntmps39
    go_wp2_with (fail)
    go_ret
    exact ⟨by simp, Below.refl _ _⟩
end Go.Proofs.YtgppfcaghjbjmaaDoor
