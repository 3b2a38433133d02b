/- hawserref02: bad, closing, Check. -/
import Derived.Test.YtgppfcaghjbjmaaDoorGlobR1
set_option linter.unusedVariables false
namespace Go.Proofs.YtgppfcaghjbjmaaDoor
open Go.RowKit Plain

set_option maxHeartbeats 2000000 in
set_option maxRecDepth 100000 in
theorem bad_ref (s : List UInt8) (w : World) (hs : s.length ≤ 65536) :
    Calls Tryd.prog 48 #[.string ⟨s.toArray⟩] w (Ret w (.int .i64 (badI (badP s)))) := by
  have HVR := Lib.hid (fun (l : List UInt8) W (h : l.length ≤ 65536) => Valid_ref l W (by omega))
  have hspec := fun j h => badAt_spec s.length s 0 j (Nat.le_refl _) h
  have hbef := fun at' h1 h2 h3 => bad_before s.length s 0 at' (Nat.le_refl _) h1 h2 h3
  rw [badP_at]
  generalize hb : badAt 0 s = B at *
  have HSP := Lib.hid hspec
  have HBF := Lib.hid hbef
  clear hspec hbef hb
  go_enter Tryd.func48, Tryd.ntmps48
  go_wp2_with (fail)
  go_loopw [3] (fun t3 W => ∃ k : Nat, k ≤ s.length ∧ t3 = .int .i64 k ∧ Hid (∀ j, B = some j → k ≤ j) ∧ Hid (Below w.heap.size w W)) (fun t3 _ => s.length - (intOf t3).toNat)
  case atStart => exact ⟨0, by omega, rfl, Lib.hid (fun _ _ => Nat.zero_le _), Lib.hid (Below.refl _ _)⟩
  case round =>
    obtain ⟨k, hk, rfl, HK, HB⟩ := hrel
    have hk0 : (0 : Int) ≤ k := by omega
    by_cases hlt : k < s.length
    · have htl : (s.take k).length ≤ 65536 := by simp; omega
      have hV := HVR.out (s.take k) wr htl
      have hcut : (s.drop 0).take (k - 0) = s.take k := by simp
      cases hv : Lib.validD (s.take k) with
      | false =>
        rw [hv] at hV
        have HV := Lib.hid hV
        have HN := Lib.hid (show ∀ j, B = some j → k + 1 ≤ j from fun j h => by
          have h1 := HK.out j h
          obtain ⟨i, e1, e2, e3, e4⟩ := HSP.out j h
          by_cases e : j = k
          · exfalso
            rw [show i = k by omega, hv] at e3
            cases e3
          · omega)
        clear hV hv
        go_wp2_with (fail)
        refine HV.out.mono ?_
        rintro e w1 ⟨rfl, hw1⟩
        have HB1 := Lib.hid (HB.out.trans (hw1.mono HB.out.size))
        clear hw1
        go_wp2_with (fail)
        go_roundw
        case rel => exact ⟨k + 1, by omega, by go_num, HN, HB1⟩
        case measure => simp [intOf]; omega
      | true =>
        rw [hv] at hV
        have HV := Lib.hid hV
        have hne : s.drop k ≠ [] := by intro e; have := congrArg List.length e; simp at this; omega
        have HVV := Lib.hid hv
        clear hV hv
        by_cases h0 : runeW (s.drop k) = 0
        · -- no rune here: all tries fail
          have hbk : B = some k := by
            cases hB : B with
            | none =>
              exfalso
              have := HBF.out k hlt HVV.out (fun j h => by rw [hB] at h; cases h)
              omega
            | some j =>
              have h1 := HK.out j hB
              by_cases e : j = k
              · rw [e]
              · exfalso
                have := HBF.out k hlt HVV.out (fun j' h => by rw [hB] at h; injection h with h; omega)
                omega
          have HBK := Lib.hid hbk
          have HNV := Lib.hid (fun n (h1 : 1 ≤ n) (h2 : k + n ≤ s.length) => valid_none (l := s.drop k) h1 (by rw [List.length_drop]; omega) h0)
          clear hbk h0 hne
          go_wp2_with (fail)
          refine HV.out.mono ?_
          rintro e w1 ⟨rfl, hw1⟩
          have HB1 := Lib.hid (HB.out.trans (hw1.mono HB.out.size))
          clear hw1
          go_wp2_with (fail)
          go_loopw [4] (fun t4 W => ∃ n : Nat, 1 ≤ n ∧ n ≤ 5 ∧ k + n ≤ s.length + 1 ∧ t4 = .int .i64 n ∧ Hid (Below w.heap.size w W)) (fun t4 _ => 5 - (intOf t4).toNat)
          case atStart => exact ⟨1, by omega, by omega, by omega, rfl, HB1⟩
          case round =>
            obtain ⟨n, hn1, hn5, hkn, rfl, HB2⟩ := hrel
            have e1 : IntKind.i64.wrap ((k : Int) + (n : Int)) = (k : Int) + n := IntWalk.i64_in _ (by omega)
            have e2 : ((k : Int) + (n : Int)).toNat = k + n := by omega
            by_cases hn4 : n ≤ 4
            · have d1 : decide ((n : Int) ≤ 4) = true := by rw [decide_eq_true_eq]; omega
              have d1' : decide ((4 : Int) < (n : Int)) = false := by rw [decide_eq_false_iff_not]; omega
              by_cases hle : k + n ≤ s.length
              · have d2 : decide ((k : Int) + n ≤ (s.length : Int)) = true := by rw [decide_eq_true_eq]; omega
                have d2' : (k : Int) + n ≤ (s.length : Int) := by omega
                have hV2 := HVR.out ((s.drop k).take n) wr (by simp; omega)
                rw [HNV.out n hn1 hle] at hV2
                have HV2 := Lib.hid hV2
                have hcut2 : (s.drop k).take (k + n - k) = (s.drop k).take n := by rw [show k + n - k = n by omega]
                clear hV2
                go_wp2_with (fail)
                refine HV2.out.mono ?_
                rintro e w3 ⟨rfl, hw3⟩
                have HB3 := Lib.hid (HB2.out.trans (hw3.mono HB2.out.size))
                clear hw3
                go_wp2_with (fail)
                go_roundw
                case rel => exact ⟨n + 1, by omega, by omega, by omega, by go_num, HB3⟩
                case measure => simp [intOf]; omega
              · have d2 : decide ((k : Int) + n ≤ (s.length : Int)) = false := by rw [decide_eq_false_iff_not]; omega
                have d2' : decide ((s.length : Int) < (k : Int) + n) = true := by rw [decide_eq_true_eq]; omega
                go_wp2_with (fail)
                go_ret
                exact ⟨by rw [HBK.out]; rfl, HB2.out⟩
            · have d1 : decide ((n : Int) ≤ 4) = false := by rw [decide_eq_false_iff_not]; omega
              have d1' : decide ((4 : Int) < (n : Int)) = true := by rw [decide_eq_true_eq]; omega
              go_wp2_with (fail)
              go_ret
              exact ⟨by rw [HBK.out]; rfl, HB2.out⟩
        · -- a rune: some try does
          have hw1 : 1 ≤ runeW (s.drop k) := by omega
          have h4 := runeW_max hne hw1
          have hwl := runeW_le' hne
          rw [List.length_drop] at hwl
          have hone := valid_one hne hw1
          have HN := Lib.hid (show ∀ j, B = some j → k + 1 ≤ j from fun j h => by
            have h1 := HK.out j h
            obtain ⟨i, e1, e2, e3, e4⟩ := HSP.out j h
            by_cases e : j = k
            · exfalso
              rw [show i = k by omega] at e4
              omega
            · omega)
          generalize hm : runeW (s.drop k) = m at *
          have HONE := Lib.hid hone
          clear hone h0 hne hm
          go_wp2_with (fail)
          refine HV.out.mono ?_
          rintro e w1 ⟨rfl, hw1'⟩
          have HB1 := Lib.hid (HB.out.trans (hw1'.mono HB.out.size))
          clear hw1'
          go_wp2_with (fail)
          go_loopw [4] (fun t4 W => ∃ n : Nat, 1 ≤ n ∧ n ≤ m ∧ t4 = .int .i64 n ∧ Hid (Below w.heap.size w W)) (fun t4 _ => 5 - (intOf t4).toNat)
          case atStart => exact ⟨1, by omega, by omega, rfl, HB1⟩
          case round =>
            obtain ⟨n, hn1, hnm, rfl, HB2⟩ := hrel
            have e1 : IntKind.i64.wrap ((k : Int) + (n : Int)) = (k : Int) + n := IntWalk.i64_in _ (by omega)
            have e2 : ((k : Int) + (n : Int)).toNat = k + n := by omega
            have d1 : decide ((n : Int) ≤ 4) = true := by rw [decide_eq_true_eq]; omega
            have d1' : decide ((4 : Int) < (n : Int)) = false := by rw [decide_eq_false_iff_not]; omega
            have d2 : decide ((k : Int) + n ≤ (s.length : Int)) = true := by rw [decide_eq_true_eq]; omega
            have d2n : (k : Int) + n ≤ (s.length : Int) := by omega
            have d2' : decide ((s.length : Int) < (k : Int) + n) = false := by rw [decide_eq_false_iff_not]; omega
            have hV2 := HVR.out ((s.drop k).take n) wr (by simp; omega)
            have hcut2 : (s.drop k).take (k + n - k) = (s.drop k).take n := by rw [show k + n - k = n by omega]
            cases hvn : Lib.validD ((s.drop k).take n) with
            | true =>
              rw [hvn] at hV2
              have HV2 := Lib.hid hV2
              clear hV2 hvn
              go_wp2_with (fail)
              refine HV2.out.mono ?_
              rintro e w3 ⟨rfl, hw3⟩
              have HB3 := Lib.hid (HB2.out.trans (hw3.mono HB2.out.size))
              clear hw3
              go_wp2_with (fail)
              go_roundw
              all_goals first
                | exact ⟨k + 1, by omega, by go_num, HN, HB3⟩
                | (simp [intOf]; omega)
            | false =>
              rw [hvn] at hV2
              have HV2 := Lib.hid hV2
              have hnm2 : n < m := by
                rcases Nat.lt_or_ge n m with h | h
                · exact h
                · exfalso
                  have : n = m := by omega
                  rw [this, HONE.out] at hvn
                  cases hvn
              clear hV2 hvn
              go_wp2_with (fail)
              refine HV2.out.mono ?_
              rintro e w3 ⟨rfl, hw3⟩
              have HB3 := Lib.hid (HB2.out.trans (hw3.mono HB2.out.size))
              clear hw3
              go_wp2_with (fail)
              go_roundw
              case rel => exact ⟨n + 1, by omega, by omega, by go_num, HB3⟩
              case measure => simp [intOf]; omega
    · obtain rfl : k = s.length := by omega
      have hbn : B = none := by
        cases hB : B with
        | none => rfl
        | some j =>
          exfalso
          have h1 := HK.out j hB
          obtain ⟨i, e1, e2, _⟩ := HSP.out j hB
          omega
      have HBN := Lib.hid hbn
      clear hbn
      go_wp2_with (fail)
      go_ret
      exact ⟨by rw [HBN.out]; rfl, HB.out⟩
end Go.Proofs.YtgppfcaghjbjmaaDoor
