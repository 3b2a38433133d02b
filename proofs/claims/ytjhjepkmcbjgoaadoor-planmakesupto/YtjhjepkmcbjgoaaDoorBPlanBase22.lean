/- Texts joined: GlobR1, GlobR2, GlobR3, GlobR4. -/
import Derived.Test.YtjhjepkmcbjgoaaDoorBPlanBase15
import Derived.Test.YtjhjepkmcbjgoaaDoorBPlanBase21
import Derived.Deep.DeepCutAuto
import Derived.Deep.CutBlock
import Derived.Test.YtjhjepkmcbjgoaaDoorBPlanBase11
set_option linter.unusedSimpArgs false
set_option linter.unusedVariables false

/- hawserref02: Runes, bad. -/
section
set_option linter.unusedVariables false
namespace Go.Proofs.YtjhjepkmcbjgoaaDoor
open Go.RowKit Plain

namespace Plain
theorem badAt_spec : ∀ (n : Nat) (l : List UInt8) (k j : Nat), l.length ≤ n → badAt k l = some j → ∃ i, j = k + i ∧ i < l.length ∧ Lib.validD (l.take i) = true ∧ runeW (l.drop i) = 0 := by
  intro n
  induction n with
  | zero =>
    intro l k j h1 h2
    have : l = [] := List.eq_nil_of_length_eq_zero (by omega)
    subst this
    rw [badAt_nil] at h2; cases h2
  | succ n ih =>
    intro l k j h1 h2
    by_cases hne : l = []
    · subst hne; rw [badAt_nil] at h2; cases h2
    · have hl : 0 < l.length := List.length_pos_iff.2 hne
      rw [badAt_step hne] at h2
      by_cases h0 : runeW l = 0
      · rw [if_pos h0] at h2
        injection h2 with h2
        exact ⟨0, by omega, hl, by rw [List.take_zero]; rfl, by simpa using h0⟩
      · rw [if_neg h0] at h2
        have hwl := runeW_le' hne
        obtain ⟨i, e1, e2, e3, e4⟩ := ih _ _ _ (by simp; omega) h2
        simp only [List.length_drop] at e2
        refine ⟨runeW l + i, by omega, by omega, ?_, by rw [List.drop_drop] at e4; exact e4⟩
        have hw := runeW_take (e := runeW l + i) (show 1 ≤ runeW l by omega) (by omega) (by omega)
        have hr := validD_rune (l.take (runeW l + i)) 0 (by simp; omega)
        simp only [List.drop_zero, Nat.zero_add] at hr
        rw [hr, hw, if_neg h0, List.drop_take, show runeW l + i - runeW l = i by omega]
        exact e3
theorem runeW_max {l : List UInt8} (hne : l ≠ []) (h : 1 ≤ runeW l) : runeW l ≤ 4 := by
  obtain ⟨hr, _, hlen⟩ := runeT_rune hne h
  rw [← hlen]
  have hf := rune_form hr
  generalize runeT l = t at *
  generalize valR t = v at *
  cases hf <;> simp
theorem valid_one {l : List UInt8} (hne : l ≠ []) (h : 1 ≤ runeW l) : Lib.validD (l.take (runeW l)) = true := by
  have hwl := runeW_le' hne
  have hw := runeW_take h (Nat.le_refl _) hwl
  have hl : 0 < l.length := List.length_pos_iff.2 hne
  have hr := validD_rune (l.take (runeW l)) 0 (by simp; omega)
  simp only [List.drop_zero, Nat.zero_add] at hr
  rw [hr, hw, if_neg (by omega), List.drop_eq_nil_of_le (by rw [List.length_take]; exact Nat.min_le_left _ _)]
  rfl
theorem valid_none {l : List UInt8} {n : Nat} (hn : 1 ≤ n) (hl : n ≤ l.length) (h : runeW l = 0) : Lib.validD (l.take n) = false := by
  rw [← Bool.not_eq_true]
  intro hv
  have hne : l.take n ≠ [] := by
    intro e
    have h0 : (l.take n).length = 0 := by rw [e]; rfl
    rw [List.length_take] at h0
    omega
  have := (valid_next hne hv).1
  rw [← runeW_ext this hl hne] at this
  omega
end Plain

theorem info_strR : (Tryd.prog.info? 9).map (fun i => (i.zero, i.size, i.bytes)) = some (some (.string ByteArray.empty), 1, 16) := by kernel_rfl

set_option maxHeartbeats 2000000 in
set_option maxRecDepth 100000 in
theorem Runes_ref (s : List UInt8) (w : World) (hv : Lib.validD s = true) (hs : s.length ≤ 65536) :
    Calls Tryd.prog 34 #[.string ⟨s.toArray⟩] w (StrsOut w (runesP s)) := by
  obtain ⟨i0, hi, hz0, hz1, hz2⟩ := info_parts info_strR
  have HI := Lib.hid hi
  have HV := Lib.hid hv
  clear hi hv
  go_enter Tryd.func34, Tryd.ntmps34
  go_wp2_with (fail)
  go_loopw [3, 4] (fun t3 t4 W => ∃ (k : Nat) (d : List (List UInt8)), k ≤ s.length ∧ t4 = .int .i64 k ∧ d.length ≤ k ∧ Hid (W.ownsRow w.heap.size 9 1 t3 d.length (strs d)) ∧ Hid (runesP s = d ++ runesP (s.drop k)) ∧ Hid (Lib.validD (s.drop k) = true) ∧ Hid (Below w.heap.size w W)) (fun _ t4 _ => s.length - (intOf t4).toNat)
  case atStart => exact ⟨0, [], by omega, rfl, by simp, Lib.hid (World.ownsRow_nil _ _ _ _), Lib.hid rfl, HV, Lib.hid (Below.refl _ _)⟩
  case round =>
    clear HV
    obtain ⟨k, d, hk, rfl, hd, HO, HE, HVK, HB⟩ := hrel
    have hk0 : (0 : Int) ≤ k := by omega
    by_cases hlt : k < s.length
    · have hne : s.drop k ≠ [] := by intro e; have := congrArg List.length e; simp at this; omega
      obtain ⟨hw1, hv2⟩ := valid_next hne HVK.out
      have hwl := runeW_le' hne
      rw [List.length_drop] at hwl
      obtain ⟨hc1, hc2⟩ := rune_cont hne HVK.out
      have hstop := fun h => rune_stop hne HVK.out h
      have hst := runesP_step hne hw1
      rw [List.drop_drop] at hv2 hst
      have hgd : ∀ j, (s.drop k).getD j 0 = s.getD (k + j) 0 := fun j => by rw [List.getD_eq_getElem?_getD, List.getElem?_drop, ← List.getD_eq_getElem?_getD]
      have hrt : runeT (s.drop k) = (s.drop k).take (runeW (s.drop k)) := rfl
      rw [List.length_drop] at hstop
      generalize hww : runeW (s.drop k) = m at *
      have hcb : ∀ j (h : k + j < s.length), 1 ≤ j → j < m → (128 : Int) ≤ (s[k + j].toNat : Int) ∧ (s[k + j].toNat : Int) ≤ 191 := fun j h a b => by
        have := contB_iff.1 (hc1 j a b)
        rw [hgd, show s.getD (k + j) 0 = s[k + j] by simp [List.getD, h]] at this
        omega
      have hsb : ∀ (h : k + m < s.length), ¬ ((128 : Int) ≤ (s[k + m].toNat : Int) ∧ (s[k + m].toNat : Int) ≤ 191) := fun h c => by
        have := hstop (by omega)
        rw [hgd, show s.getD (k + m) 0 = s[k + m] by simp [List.getD, h]] at this
        rw [← Bool.not_eq_true] at this
        exact this (contB_iff.2 (by omega))
      have HST := Lib.hid hst
      have HV2 := Lib.hid hv2
      have HCB := Lib.hid hcb
      have HSB := Lib.hid hsb
      have HRT := Lib.hid hrt
      clear hc1 hc2 hstop hst hv2 hgd hrt hcb hsb hww hne HVK
      go_wp2_with (fail)
      go_loopw [5] (fun t5 W => ∃ n : Nat, 1 ≤ n ∧ n ≤ m ∧ t5 = .int .i64 n ∧ W = wr) (fun t5 _ => m - (intOf t5).toNat)
      case atStart => exact ⟨1, by omega, by omega, rfl, rfl⟩
      case round =>
        obtain ⟨n, hn1, hnm, rfl, rfl⟩ := hrel
        have e1 : IntKind.i64.wrap ((k : Int) + (n : Int)) = (k : Int) + n := IntWalk.i64_in _ (by omega)
        have e2 : ((k : Int) + (n : Int)).toNat = k + n := by omega
        have e3 : (0 : Int) ≤ (k : Int) + n := by omega
        by_cases hn : n < m
        · have e4 : (k : Int) + n < s.length := by omega
          obtain ⟨f1, f2⟩ := HCB.out n (by omega) hn1 hn
          go_wp2_with (fail)
          go_roundw
          case rel => exact ⟨n + 1, by omega, by omega, by go_num, by first | trivial | rfl⟩
          case measure => simp [intOf]; omega
        · obtain rfl : n = m := by omega
          have hfin : runesP s = (d ++ [(s.drop k).take n]) ++ runesP (s.drop (k + n)) := by rw [HE.out, HST.out, ← HRT.out]; simp
          have HFIN := Lib.hid hfin
          clear hfin
          generalize hp : (s.drop k).take n = p at *
          have hp2 : (s.drop k).take (k + n - k) = p := by rw [show k + n - k = n by omega]; exact hp
          have HOA := Lib.hid (HO.out)
          rcases (show (¬ k + n < s.length) ∨ (∃ h : k + n < s.length, (s[k + n].toNat : Int) < 128) ∨ (∃ h : k + n < s.length, (128 : Int) ≤ (s[k + n].toNat : Int) ∧ (191 : Int) < (s[k + n].toNat : Int)) by
            by_cases h : k + n < s.length
            · have := HSB.out h
              by_cases q : (s[k + n].toNat : Int) < 128
              · exact .inr (.inl ⟨h, q⟩)
              · exact .inr (.inr ⟨h, by omega, by omega⟩)
            · exact .inl h) with hq | ⟨hq, hq1⟩ | ⟨hq, hq1, hq2⟩
          case' inl => have e4 : decide ((k : Int) + n < (s.length : Int)) = false := by rw [decide_eq_false_iff_not]; omega
          case' inr.inl => have e4 : (k : Int) + n < (s.length : Int) := by omega
          case' inr.inr => have e4 : (k : Int) + n < (s.length : Int) := by omega
          all_goals
            go_wp2_with (at_builtin; refine wpList_append_own _ rfl _ _ 60 rfl w.heap.size 9 i0 _ 1 16 Tryd.underlying60 HI.out hz0 hz1 hz2 rfl (by decide) _ _ _ rfl (HO.out.alloc _) ⟨wr.heap.size, 0, none⟩ 1 1 [.string ⟨p.toArray⟩] rfl rfl (laid_one _ _ _) (one_oneCell rfl) (by unfold maxLen; omega) (by omega) (by have := HB.out.size; simp; omega) ?_)
            intro v1 w1 hown1 hg1 _
            have hb1 : Below w.heap.size w w1 := (HB.out.alloc HB.out.size _).grown hg1 (by have := HB.out.size; simp; omega) (fun k hk => (HO.out.lt k hk).1)
            have hown2 : w1.ownsRow w.heap.size 9 1 v1 (d ++ [p]).length (strs (d ++ [p])) := by
              rw [strs_append, List.length_append]; exact hown1
            have HB1 := Lib.hid hb1
            have HO1 := Lib.hid hown2
            clear hg1 hb1 hown1 hown2
            go_wp2_with (fail)
            go_roundw
            all_goals first
              | exact ⟨k + n, d ++ [p], by omega, by go_num, by simp; omega, HO1, HFIN, HV2, HB1⟩
              | (simp [intOf]; omega)
    · obtain rfl : k = s.length := by omega
      have hee : runesP s = d := by have := HE.out; rw [List.drop_length, runesP_nil, List.append_nil] at this; exact this
      obtain ⟨A, c, rfl, hc, hm, hr, hA0⟩ := of_own0 HO.out
      have HEE := Lib.hid hee
      have HR := Lib.hid hr
      clear hee hr HO HE HVK
      go_wp2_with (fail)
      go_ret
      exact ⟨A, c, by rw [HEE.out]; rfl, by rw [HEE.out]; exact hc, hm, by rw [HEE.out]; exact HR.out, HB.out, hA0⟩
end Go.Proofs.YtjhjepkmcbjgoaaDoor
end

/- hawserref02: bad, closing, Check. -/
section
set_option linter.unusedVariables false
namespace Go.Proofs.YtjhjepkmcbjgoaaDoor
open Go.RowKit Plain

set_option maxHeartbeats 2000000 in
set_option maxRecDepth 100000 in
theorem bad_ref (s : List UInt8) (w : World) (hs : s.length ≤ 65536) :
    Calls Tryd.prog 49 #[.string ⟨s.toArray⟩] w (Ret w (.int .i64 (badI (badP s)))) := by
  have HVR := Lib.hid (fun (l : List UInt8) W (h : l.length ≤ 65536) => Valid_ref l W (by omega))
  have hspec := fun j h => badAt_spec s.length s 0 j (Nat.le_refl _) h
  have hbef := fun at' h1 h2 h3 => bad_before s.length s 0 at' (Nat.le_refl _) h1 h2 h3
  rw [badP_at]
  generalize hb : badAt 0 s = B at *
  have HSP := Lib.hid hspec
  have HBF := Lib.hid hbef
  clear hspec hbef hb
  go_enter Tryd.func49, Tryd.ntmps49
  go_wp2_with (fail)
  go_loopw [3] (fun t3 W => ∃ k : Nat, k ≤ s.length ∧ t3 = .int .i64 k ∧ Hid (∀ j, B = some j → k ≤ j) ∧ Hid (Below w.heap.size w W)) (fun t3 _ => s.length - (intOf t3).toNat)
  case atStart => exact ⟨0, by omega, rfl, Lib.hid (fun _ _ => Nat.zero_le _), Lib.hid (Below.refl _ _)⟩
  case round =>
    obtain ⟨k, hk, rfl, HK, HB⟩ := hrel
    have hk0 : (0 : Int) ≤ k := by omega
    by_cases hlt : k < s.length
    · have htl : (s.take k).length ≤ 65536 := by simp; omega
      have hV := HVR.out (s.take k) wr htl
      have hcut : (s.drop 0).take (k - 0) = s.take k := by simp
      cases hv : Lib.validD (s.take k) with
      | false =>
        rw [hv] at hV
        have HV := Lib.hid hV
        have HN := Lib.hid (show ∀ j, B = some j → k + 1 ≤ j from fun j h => by
          have h1 := HK.out j h
          obtain ⟨i, e1, e2, e3, e4⟩ := HSP.out j h
          by_cases e : j = k
          · exfalso
            rw [show i = k by omega, hv] at e3
            cases e3
          · omega)
        clear hV hv
        go_wp2_with (fail)
        refine HV.out.mono ?_
        rintro e w1 ⟨rfl, hw1⟩
        have HB1 := Lib.hid (HB.out.trans (hw1.mono HB.out.size))
        clear hw1
        go_wp2_with (fail)
        go_roundw
        case rel => exact ⟨k + 1, by omega, by go_num, HN, HB1⟩
        case measure => simp [intOf]; omega
      | true =>
        rw [hv] at hV
        have HV := Lib.hid hV
        have hne : s.drop k ≠ [] := by intro e; have := congrArg List.length e; simp at this; omega
        have HVV := Lib.hid hv
        clear hV hv
        by_cases h0 : runeW (s.drop k) = 0
        · -- no rune here: all tries fail
          have hbk : B = some k := by
            cases hB : B with
            | none =>
              exfalso
              have := HBF.out k hlt HVV.out (fun j h => by rw [hB] at h; cases h)
              omega
            | some j =>
              have h1 := HK.out j hB
              by_cases e : j = k
              · rw [e]
              · exfalso
                have := HBF.out k hlt HVV.out (fun j' h => by rw [hB] at h; injection h with h; omega)
                omega
          have HBK := Lib.hid hbk
          have HNV := Lib.hid (fun n (h1 : 1 ≤ n) (h2 : k + n ≤ s.length) => valid_none (l := s.drop k) h1 (by rw [List.length_drop]; omega) h0)
          clear hbk h0 hne
          go_wp2_with (fail)
          refine HV.out.mono ?_
          rintro e w1 ⟨rfl, hw1⟩
          have HB1 := Lib.hid (HB.out.trans (hw1.mono HB.out.size))
          clear hw1
          go_wp2_with (fail)
          go_loopw [4] (fun t4 W => ∃ n : Nat, 1 ≤ n ∧ n ≤ 5 ∧ k + n ≤ s.length + 1 ∧ t4 = .int .i64 n ∧ Hid (Below w.heap.size w W)) (fun t4 _ => 5 - (intOf t4).toNat)
          case atStart => exact ⟨1, by omega, by omega, by omega, rfl, HB1⟩
          case round =>
            obtain ⟨n, hn1, hn5, hkn, rfl, HB2⟩ := hrel
            have e1 : IntKind.i64.wrap ((k : Int) + (n : Int)) = (k : Int) + n := IntWalk.i64_in _ (by omega)
            have e2 : ((k : Int) + (n : Int)).toNat = k + n := by omega
            by_cases hn4 : n ≤ 4
            · have d1 : decide ((n : Int) ≤ 4) = true := by rw [decide_eq_true_eq]; omega
              have d1' : decide ((4 : Int) < (n : Int)) = false := by rw [decide_eq_false_iff_not]; omega
              by_cases hle : k + n ≤ s.length
              · have d2 : decide ((k : Int) + n ≤ (s.length : Int)) = true := by rw [decide_eq_true_eq]; omega
                have d2' : (k : Int) + n ≤ (s.length : Int) := by omega
                have hV2 := HVR.out ((s.drop k).take n) wr (by simp; omega)
                rw [HNV.out n hn1 hle] at hV2
                have HV2 := Lib.hid hV2
                have hcut2 : (s.drop k).take (k + n - k) = (s.drop k).take n := by rw [show k + n - k = n by omega]
                clear hV2
                go_wp2_with (fail)
                refine HV2.out.mono ?_
                rintro e w3 ⟨rfl, hw3⟩
                have HB3 := Lib.hid (HB2.out.trans (hw3.mono HB2.out.size))
                clear hw3
                go_wp2_with (fail)
                go_roundw
                case rel => exact ⟨n + 1, by omega, by omega, by omega, by go_num, HB3⟩
                case measure => simp [intOf]; omega
              · have d2 : decide ((k : Int) + n ≤ (s.length : Int)) = false := by rw [decide_eq_false_iff_not]; omega
                have d2' : decide ((s.length : Int) < (k : Int) + n) = true := by rw [decide_eq_true_eq]; omega
                go_wp2_with (fail)
                go_ret
                exact ⟨by rw [HBK.out]; rfl, HB2.out⟩
            · have d1 : decide ((n : Int) ≤ 4) = false := by rw [decide_eq_false_iff_not]; omega
              have d1' : decide ((4 : Int) < (n : Int)) = true := by rw [decide_eq_true_eq]; omega
              go_wp2_with (fail)
              go_ret
              exact ⟨by rw [HBK.out]; rfl, HB2.out⟩
        · -- a rune: some try does
          have hw1 : 1 ≤ runeW (s.drop k) := by omega
          have h4 := runeW_max hne hw1
          have hwl := runeW_le' hne
          rw [List.length_drop] at hwl
          have hone := valid_one hne hw1
          have HN := Lib.hid (show ∀ j, B = some j → k + 1 ≤ j from fun j h => by
            have h1 := HK.out j h
            obtain ⟨i, e1, e2, e3, e4⟩ := HSP.out j h
            by_cases e : j = k
            · exfalso
              rw [show i = k by omega] at e4
              omega
            · omega)
          generalize hm : runeW (s.drop k) = m at *
          have HONE := Lib.hid hone
          clear hone h0 hne hm
          go_wp2_with (fail)
          refine HV.out.mono ?_
          rintro e w1 ⟨rfl, hw1'⟩
          have HB1 := Lib.hid (HB.out.trans (hw1'.mono HB.out.size))
          clear hw1'
          go_wp2_with (fail)
          go_loopw [4] (fun t4 W => ∃ n : Nat, 1 ≤ n ∧ n ≤ m ∧ t4 = .int .i64 n ∧ Hid (Below w.heap.size w W)) (fun t4 _ => 5 - (intOf t4).toNat)
          case atStart => exact ⟨1, by omega, by omega, rfl, HB1⟩
          case round =>
            obtain ⟨n, hn1, hnm, rfl, HB2⟩ := hrel
            have e1 : IntKind.i64.wrap ((k : Int) + (n : Int)) = (k : Int) + n := IntWalk.i64_in _ (by omega)
            have e2 : ((k : Int) + (n : Int)).toNat = k + n := by omega
            have d1 : decide ((n : Int) ≤ 4) = true := by rw [decide_eq_true_eq]; omega
            have d1' : decide ((4 : Int) < (n : Int)) = false := by rw [decide_eq_false_iff_not]; omega
            have d2 : decide ((k : Int) + n ≤ (s.length : Int)) = true := by rw [decide_eq_true_eq]; omega
            have d2n : (k : Int) + n ≤ (s.length : Int) := by omega
            have d2' : decide ((s.length : Int) < (k : Int) + n) = false := by rw [decide_eq_false_iff_not]; omega
            have hV2 := HVR.out ((s.drop k).take n) wr (by simp; omega)
            have hcut2 : (s.drop k).take (k + n - k) = (s.drop k).take n := by rw [show k + n - k = n by omega]
            cases hvn : Lib.validD ((s.drop k).take n) with
            | true =>
              rw [hvn] at hV2
              have HV2 := Lib.hid hV2
              clear hV2 hvn
              go_wp2_with (fail)
              refine HV2.out.mono ?_
              rintro e w3 ⟨rfl, hw3⟩
              have HB3 := Lib.hid (HB2.out.trans (hw3.mono HB2.out.size))
              clear hw3
              go_wp2_with (fail)
              go_roundw
              all_goals first
                | exact ⟨k + 1, by omega, by go_num, HN, HB3⟩
                | (simp [intOf]; omega)
            | false =>
              rw [hvn] at hV2
              have HV2 := Lib.hid hV2
              have hnm2 : n < m := by
                rcases Nat.lt_or_ge n m with h | h
                · exact h
                · exfalso
                  have : n = m := by omega
                  rw [this, HONE.out] at hvn
                  cases hvn
              clear hV2 hvn
              go_wp2_with (fail)
              refine HV2.out.mono ?_
              rintro e w3 ⟨rfl, hw3⟩
              have HB3 := Lib.hid (HB2.out.trans (hw3.mono HB2.out.size))
              clear hw3
              go_wp2_with (fail)
              go_roundw
              case rel => exact ⟨n + 1, by omega, by omega, by go_num, HB3⟩
              case measure => simp [intOf]; omega
    · obtain rfl : k = s.length := by omega
      have hbn : B = none := by
        cases hB : B with
        | none => rfl
        | some j =>
          exfalso
          have h1 := HK.out j hB
          obtain ⟨i, e1, e2, _⟩ := HSP.out j hB
          omega
      have HBN := Lib.hid hbn
      clear hbn
      go_wp2_with (fail)
      go_ret
      exact ⟨by rw [HBN.out]; rfl, HB.out⟩
end Go.Proofs.YtjhjepkmcbjgoaaDoor
end

/- hawserref02: closing, Check. -/
section
set_option linter.unusedVariables false
namespace Go.Proofs.YtjhjepkmcbjgoaaDoor
open Go.RowKit Plain

namespace Plain
theorem closeS_step {s : List UInt8} {k P : Nat} (hk : k ≤ P) (h : P < s.length) : closeA (s.drop k) (P - k) =
    if s[P] = 47 then none else if s[P] = 92 then (if h2 : P + 1 < s.length then (if s[P + 1] = 47 then none else closeA (s.drop k) (P + 2 - k)) else none) else if s[P] = 93 then (if P - k = setFrom (s.drop k) then none else some (P - k)) else closeA (s.drop k) (P + 1 - k) := by
  have hl : P - k < (s.drop k).length := by simp; omega
  rw [closeA_step hl]
  have e1 : (s.drop k)[P - k] = s[P] := by rw [List.getElem_drop]; congr 1; omega
  rw [e1, show P - k + 1 = P + 1 - k by omega, show P - k + 2 = P + 2 - k by omega]
  by_cases h2 : P + 1 < s.length
  · have hl2 : P + 1 - k < (s.drop k).length := by simp; omega
    have e2 : (s.drop k)[P + 1 - k] = s[P + 1] := by rw [List.getElem_drop]; congr 1; omega
    rw [dif_pos hl2, dif_pos h2, e2]
  · rw [dif_neg (by simp; omega), dif_neg h2]
def clI (k : Nat) (o : Option Nat) : Int := match o with
  | some e => ((k + e : Nat) : Int)
  | none => -1
end Plain

set_option maxHeartbeats 2000000 in
set_option maxRecDepth 100000 in
theorem closing_ref (s : List UInt8) (k : Nat) (w : World) (hk : k < s.length) (hs : s.length ≤ 65536) :
    Calls Tryd.prog 50 #[.string ⟨s.toArray⟩, .int .i64 k] w (Ret w (.int .i64 (clI k (closeP (s.drop k))))) := by
  have hcl := closeA_closeP (s.drop k)
  have hd1 : (s.drop k).drop 1 = s.drop (k + 1) := by rw [List.drop_drop]
  obtain ⟨f, hf⟩ : ∃ f, setFrom (s.drop k) = f := ⟨_, rfl⟩
  have hfc : (f = 1 ∧ ¬ k + 1 < s.length) ∨ (f = 1 ∧ ∃ h : k + 1 < s.length, s[k + 1] ≠ 33) ∨ (f = 2 ∧ ∃ h : k + 1 < s.length, s[k + 1] = 33) := by
    rw [← hf]
    unfold setFrom
    rw [hd1]
    by_cases h : k + 1 < s.length
    · rw [List.drop_eq_getElem_cons h, List.head?_cons]
      by_cases h33 : s[k + 1] = 33
      · rw [if_pos (by rw [h33])]; exact .inr (.inr ⟨rfl, h, h33⟩)
      · rw [if_neg (by simpa using h33)]; exact .inr (.inl ⟨rfl, h, h33⟩)
    · rw [List.drop_eq_nil_of_le (by omega)]; exact .inl ⟨by simp, h⟩
  have hstep := fun P (h1 : k ≤ P) (h2 : P < s.length) => closeS_step (s := s) h1 h2
  rw [hf] at hcl hstep
  generalize closeP (s.drop k) = C at *
  generalize hG : closeA (s.drop k) = G at *
  have HCL := Lib.hid hcl
  have HST := Lib.hid hstep
  have hend := fun P (h1 : s.length ≤ P) => closeA_end (s := s.drop k) (i := P - k) (by simp; omega)
  rw [hG] at hend
  have HEND := Lib.hid hend
  have k0 : (0 : Int) ≤ k := by omega
  have e1 : IntKind.i64.wrap ((k : Int) + 1) = (k : Int) + 1 := IntWalk.i64_in _ (by omega)
  have e2 : IntKind.i64.wrap ((k : Int) + 1 + 1) = (k : Int) + 1 + 1 := IntWalk.i64_in _ (by omega)
  have e3 : ((k : Int) + 1).toNat = k + 1 := by omega
  have e4 : (0 : Int) ≤ (k : Int) + 1 := by omega
  have hfl : 1 ≤ f ∧ f ≤ 2 ∧ k + f ≤ s.length := by rcases hfc with ⟨h, _⟩ | ⟨h, h2, _⟩ | ⟨h, h2, _⟩ <;> omega
  clear hcl hstep hend hd1 hf hG
  rcases hfc with ⟨rfl, h⟩ | ⟨rfl, h, h33⟩ | ⟨rfl, h, h33⟩
  · have d1 : decide ((k : Int) + 1 < (s.length : Int)) = false := by rw [decide_eq_false_iff_not]; omega
    go_enter Tryd.func50, Tryd.ntmps50
    go_wp2_with (fail)
    clear d1
    go_loopw [6] (fun t6 W => ∃ P : Nat, k + 1 ≤ P ∧ P ≤ s.length ∧ t6 = .int .i64 P ∧ Hid (C = G (P - k)) ∧ W = w) (fun t6 _ => s.length - (intOf t6).toNat)
    case atStart => exact ⟨k + 1, by omega, by omega, rfl, Lib.hid (by rw [show k + 1 - k = 1 by omega]; exact HCL.out.symm), rfl⟩
    case round =>
      obtain ⟨P, hP1, hP2, rfl, HC, rfl⟩ := hrel
      have p0 : (0 : Int) ≤ P := by omega
      have HN := Lib.hid (HC.out.trans (HEND.out P (by omega)))
      go_wp2_with (fail)
      go_ret
      exact ⟨by rw [HN.out]; rfl, Below.refl _ _⟩
  · have d1 : (k : Int) + 1 < (s.length : Int) := by omega
    generalize hc1 : s[k + 1] = c at *
    have hq := u8_ne (n := 33) (by omega) h33
    clear h33
    go_enter Tryd.func50, Tryd.ntmps50
    go_wp2_with (fail)
    clear d1 hq hc1
    go_loopw [6] (fun t6 W => ∃ P : Nat, k + 1 ≤ P ∧ P ≤ s.length ∧ t6 = .int .i64 P ∧ Hid (C = G (P - k)) ∧ W = w) (fun t6 _ => s.length - (intOf t6).toNat)
    case atStart => exact ⟨k + 1, by omega, by omega, rfl, Lib.hid (by rw [show k + 1 - k = 1 by omega]; exact HCL.out.symm), rfl⟩
    case round =>
      obtain ⟨P, hP1, hP2, rfl, HC, rfl⟩ := hrel
      have p0 : (0 : Int) ≤ P := by omega
      by_cases hlt : P < s.length
      · have p1 : (P : Int) < s.length := by omega
        have hst := HST.out P (by omega) hlt
        have e5 : IntKind.i64.wrap ((P : Int) + 1) = (P : Int) + 1 := IntWalk.i64_in _ (by omega)
        have e6 : ((P : Int) + 1).toNat = P + 1 := by omega
        by_cases h47 : s[P] = 47
        · rw [if_pos h47] at hst
          have HN := Lib.hid (HC.out.trans hst)
          clear hst
          go_wp2_with (fail)
          go_ret
          exact ⟨by rw [HN.out]; rfl, Below.refl _ _⟩
        rw [if_neg h47] at hst
        by_cases h92 : s[P] = 92
        · rw [if_pos h92] at hst
          clear h47
          by_cases h2 : P + 1 < s.length
          · rw [dif_pos h2] at hst
            have d2 : decide ((s.length : Int) ≤ (P : Int) + 1) = false := by rw [decide_eq_false_iff_not]; omega
            have d3 : (P : Int) + 1 < s.length := by omega
            by_cases h47 : s[P + 1] = 47
            · rw [if_pos h47] at hst
              have HN := Lib.hid (HC.out.trans hst)
              clear hst
              go_wp2_with (fail)
              go_ret
              exact ⟨by rw [HN.out]; rfl, Below.refl _ _⟩
            · rw [if_neg h47] at hst
              have HN := Lib.hid (HC.out.trans hst)
              generalize hd : s[P + 1] = d at *
              have h47' := u8_ne (n := 47) (by omega) h47
              clear hst h47
              go_wp2_with (fail)
              go_roundw
              case rel => exact ⟨P + 2, by omega, by omega, by go_num, HN, by first | trivial | rfl⟩
              case measure => simp [intOf]; omega
          · rw [dif_neg h2] at hst
            have d2 : decide ((s.length : Int) ≤ (P : Int) + 1) = true := by rw [decide_eq_true_eq]; omega
            have HN := Lib.hid (HC.out.trans hst)
            clear hst
            go_wp2_with (fail)
            go_ret
            exact ⟨by rw [HN.out]; rfl, Below.refl _ _⟩
        rw [if_neg h92] at hst
        by_cases h93 : s[P] = 93
        · rw [if_pos h93] at hst
          clear h47 h92
          by_cases hPf : P - k = 1
          · rw [if_pos hPf] at hst
            have d2 : ((P : Int) == ((k + 1 : Nat) : Int)) = true := by rw [beq_iff_eq]; omega
            have d2' : ((P : Int) == (k : Int) + 1) = true := by rw [beq_iff_eq]; omega
            have HN := Lib.hid (HC.out.trans hst)
            clear hst hPf
            go_wp2_with (fail)
            go_ret
            exact ⟨by rw [HN.out]; rfl, Below.refl _ _⟩
          · rw [if_neg hPf] at hst
            have d2 : ((P : Int) == ((k + 1 : Nat) : Int)) = false := by rw [beq_eq_false_iff_ne]; omega
            have d2' : ((P : Int) == (k : Int) + 1) = false := by rw [beq_eq_false_iff_ne]; omega
            have HN := Lib.hid (HC.out.trans hst)
            have HKP := Lib.hid (show ((k + (P - k) : Nat) : Int) = P by omega)
            clear hst hPf
            go_wp2_with (fail)
            go_ret
            exact ⟨by rw [HN.out]; show _ = Ending.returned (.int .i64 ((k + (P - k) : Nat) : Int)); rw [HKP.out]; rfl, Below.refl _ _⟩
        · rw [if_neg h93] at hst
          have HN := Lib.hid (HC.out.trans hst)
          generalize hc : s[P] = c at *
          have h47' := u8_ne (n := 47) (by omega) h47
          have h92' := u8_ne (n := 92) (by omega) h92
          have h93' := u8_ne (n := 93) (by omega) h93
          clear hst h47 h92 h93
          go_wp2_with (fail)
          go_roundw
          case rel => exact ⟨P + 1, by omega, by omega, by go_num, HN, by first | trivial | rfl⟩
          case measure => simp [intOf]; omega
      · have HN := Lib.hid (HC.out.trans (HEND.out P (by omega)))
        go_wp2_with (fail)
        go_ret
        exact ⟨by rw [HN.out]; rfl, Below.refl _ _⟩
  · have d1 : (k : Int) + 1 < (s.length : Int) := by omega
    go_enter Tryd.func50, Tryd.ntmps50
    go_wp2_with (fail)
    clear d1 h33
    go_loopw [6] (fun t6 W => ∃ P : Nat, k + 2 ≤ P ∧ P ≤ s.length ∧ t6 = .int .i64 P ∧ Hid (C = G (P - k)) ∧ W = w) (fun t6 _ => s.length - (intOf t6).toNat)
    case atStart => exact ⟨k + 2, by omega, by omega, rfl, Lib.hid (by rw [show k + 2 - k = 2 by omega]; exact HCL.out.symm), rfl⟩
    case round =>
      obtain ⟨P, hP1, hP2, rfl, HC, rfl⟩ := hrel
      have p0 : (0 : Int) ≤ P := by omega
      by_cases hlt : P < s.length
      · have p1 : (P : Int) < s.length := by omega
        have hst := HST.out P (by omega) hlt
        have e5 : IntKind.i64.wrap ((P : Int) + 1) = (P : Int) + 1 := IntWalk.i64_in _ (by omega)
        have e6 : ((P : Int) + 1).toNat = P + 1 := by omega
        by_cases h47 : s[P] = 47
        · rw [if_pos h47] at hst
          have HN := Lib.hid (HC.out.trans hst)
          clear hst
          go_wp2_with (fail)
          go_ret
          exact ⟨by rw [HN.out]; rfl, Below.refl _ _⟩
        rw [if_neg h47] at hst
        by_cases h92 : s[P] = 92
        · rw [if_pos h92] at hst
          clear h47
          by_cases h2 : P + 1 < s.length
          · rw [dif_pos h2] at hst
            have d2 : decide ((s.length : Int) ≤ (P : Int) + 1) = false := by rw [decide_eq_false_iff_not]; omega
            have d3 : (P : Int) + 1 < s.length := by omega
            by_cases h47 : s[P + 1] = 47
            · rw [if_pos h47] at hst
              have HN := Lib.hid (HC.out.trans hst)
              clear hst
              go_wp2_with (fail)
              go_ret
              exact ⟨by rw [HN.out]; rfl, Below.refl _ _⟩
            · rw [if_neg h47] at hst
              have HN := Lib.hid (HC.out.trans hst)
              generalize hd : s[P + 1] = d at *
              have h47' := u8_ne (n := 47) (by omega) h47
              clear hst h47
              go_wp2_with (fail)
              go_roundw
              case rel => exact ⟨P + 2, by omega, by omega, by go_num, HN, by first | trivial | rfl⟩
              case measure => simp [intOf]; omega
          · rw [dif_neg h2] at hst
            have d2 : decide ((s.length : Int) ≤ (P : Int) + 1) = true := by rw [decide_eq_true_eq]; omega
            have HN := Lib.hid (HC.out.trans hst)
            clear hst
            go_wp2_with (fail)
            go_ret
            exact ⟨by rw [HN.out]; rfl, Below.refl _ _⟩
        rw [if_neg h92] at hst
        by_cases h93 : s[P] = 93
        · rw [if_pos h93] at hst
          clear h47 h92
          by_cases hPf : P - k = 2
          · rw [if_pos hPf] at hst
            have d2 : ((P : Int) == ((k + 2 : Nat) : Int)) = true := by rw [beq_iff_eq]; omega
            have d2' : ((P : Int) == (k : Int) + 2) = true := by rw [beq_iff_eq]; omega
            have HN := Lib.hid (HC.out.trans hst)
            clear hst hPf
            go_wp2_with (fail)
            go_ret
            exact ⟨by rw [HN.out]; rfl, Below.refl _ _⟩
          · rw [if_neg hPf] at hst
            have d2 : ((P : Int) == ((k + 2 : Nat) : Int)) = false := by rw [beq_eq_false_iff_ne]; omega
            have d2' : ((P : Int) == (k : Int) + 2) = false := by rw [beq_eq_false_iff_ne]; omega
            have HN := Lib.hid (HC.out.trans hst)
            have HKP := Lib.hid (show ((k + (P - k) : Nat) : Int) = P by omega)
            clear hst hPf
            go_wp2_with (fail)
            go_ret
            exact ⟨by rw [HN.out]; show _ = Ending.returned (.int .i64 ((k + (P - k) : Nat) : Int)); rw [HKP.out]; rfl, Below.refl _ _⟩
        · rw [if_neg h93] at hst
          have HN := Lib.hid (HC.out.trans hst)
          generalize hc : s[P] = c at *
          have h47' := u8_ne (n := 47) (by omega) h47
          have h92' := u8_ne (n := 92) (by omega) h92
          have h93' := u8_ne (n := 93) (by omega) h93
          clear hst h47 h92 h93
          go_wp2_with (fail)
          go_roundw
          case rel => exact ⟨P + 1, by omega, by omega, by go_num, HN, by first | trivial | rfl⟩
          case measure => simp [intOf]; omega
      · have HN := Lib.hid (HC.out.trans (HEND.out P (by omega)))
        go_wp2_with (fail)
        go_ret
        exact ⟨by rw [HN.out]; rfl, Below.refl _ _⟩

set_option maxHeartbeats 2000000 in
set_option maxRecDepth 100000 in
theorem Check_ref (s : List UInt8) (w : World) :
    Calls Tryd.prog 30 #[.string ⟨s.toArray⟩] w (Ret w (.tuple #[.int .i64 (checkP 400 s).1, .int .i64 (checkP 400 s).2])) := by
  by_cases h0 : s = []
  · subst h0
    have HC := Lib.hid (checkP_long (m := 400) (s := []) (.inl rfl))
    go_enter Tryd.func30, Tryd.ntmps30
    go_wp2_with (fail)
    go_ret2
    exact ⟨by rw [HC.out]; rfl, Below.refl _ _⟩
  have hse : s.isEmpty = false := by cases s; exact absurd rfl h0; rfl
  by_cases h4 : 400 < s.length
  · have HC := Lib.hid (checkP_long (m := 400) (s := s) (.inr h4))
    have h4' : decide ((400 : Int) < (s.length : Int)) = true := by rw [decide_eq_true_eq]; omega
    clear h0 h4
    go_enter Tryd.func30, Tryd.ntmps30
    go_wp2_with (fail)
    go_ret2
    exact ⟨by rw [HC.out]; rfl, Below.refl _ _⟩
  have h4' : decide ((400 : Int) < (s.length : Int)) = false := by rw [decide_eq_false_iff_not]; omega
  have hno : ¬ (s = [] ∨ 400 < s.length) := by rintro (h | h); exact h0 h; exact h4 h
  have hbad := bad_ref s w (by omega)
  cases hb : badP s with
  | some k =>
    rw [hb] at hbad
    have HC := Lib.hid (checkP_bad hno hb)
    have hk0 : decide ((0 : Int) ≤ (k : Int)) = true := by simp
    have HI := Lib.hid hbad
    clear hbad hno h0 hb
    go_enter Tryd.func30, Tryd.ntmps30
    go_wp2_with (fail)
    refine HI.out.mono ?_
    rintro e w1 ⟨rfl, hw1⟩
    go_wp2_with (fail)
    go_ret2
    exact ⟨by rw [HC.out]; rfl, hw1⟩
  | none =>
    rw [hb] at hbad
    have HC := Lib.hid (checkP_loop hno hb)
    have HI := Lib.hid hbad
    have HCL := Lib.hid (fun (k : Nat) W (h : k < s.length) => closing_ref s k W h (by omega))
    have hs400 : s.length ≤ 400 := by omega
    clear hbad hno h0 hb h4
    go_enter Tryd.func30, Tryd.ntmps30
    go_wp2_with (fail)
    refine HI.out.mono ?_
    rintro e w1 ⟨rfl, hw1⟩
    have HB1 := Lib.hid hw1
    clear hw1
    go_wp2_with (fail)
    go_loopw [5, 6] (fun t5 t6 W => ∃ (k : Nat) (b : Bool), k ≤ s.length ∧ t6 = .int .i64 k ∧ t5 = .bool b ∧ Hid (checkP 400 s = loopA k b (s.drop k)) ∧ Hid (Below w.heap.size w W)) (fun _ t6 _ => s.length - (intOf t6).toNat)
    case atStart => exact ⟨0, false, by omega, rfl, rfl, Lib.hid (by rw [HC.out]; rfl), HB1⟩
    case round =>
      obtain ⟨k, b, hk, rfl, rfl, HE, HB⟩ := hrel
      have k0 : (0 : Int) ≤ k := by omega
      have e1 : IntKind.i64.wrap ((s.length : Int) - 1) = (s.length : Int) - 1 := IntWalk.i64_in _ (by omega)
      by_cases hlt : k < s.length
      · have k1 : (k : Int) < s.length := by omega
        have hdc := List.drop_eq_getElem_cons hlt
        have e5 : IntKind.i64.wrap ((k : Int) + 1) = (k : Int) + 1 := IntWalk.i64_in _ (by omega)
        have e6 : ((k : Int) + 1).toNat = k + 1 := by omega
        have e7 : (0 : Int) ≤ (k : Int) + 1 := by omega
        have hE := HE.out
        rw [hdc] at hE
        by_cases h47 : s[k] = 47
        · rw [h47, loopA_slash] at hE
          cases b with
          | false =>
            rw [if_pos (.inl rfl)] at hE
            have HZ := Lib.hid hE
            clear hE hdc HE
            go_wp2_with (fail)
            go_ret2
            exact ⟨by rw [HZ.out]; rfl, HB.out⟩
          | true =>
            by_cases hl : k = s.length - 1
            · rw [if_pos (.inr (List.drop_eq_nil_of_le (by omega)))] at hE
              have HZ := Lib.hid hE
              have d1 : ((k : Int) == (s.length : Int) - 1) = true := by rw [beq_iff_eq]; omega
              clear hE hdc HE hl
              go_wp2_with (fail)
              go_ret2
              exact ⟨by rw [HZ.out]; rfl, HB.out⟩
            · rw [if_neg (by
                rintro (h | h)
                · cases h
                · rw [List.drop_eq_nil_iff] at h; omega)] at hE
              have HZ := Lib.hid hE
              have d1 : ((k : Int) == (s.length : Int) - 1) = false := by rw [beq_eq_false_iff_ne]; omega
              clear hE hdc HE hl
              go_wp2_with (fail)
              go_roundw
              case rel => exact ⟨k + 1, false, by omega, by go_num, rfl, HZ, HB⟩
              case measure => simp [intOf]; omega
        by_cases h92 : s[k] = 92
        · rw [h92] at hE
          clear h47
          by_cases h2 : k + 1 < s.length
          · have d1 : ((k : Int) == (s.length : Int) - 1) = false := by rw [beq_eq_false_iff_ne]; omega
            have d3 : (k : Int) + 1 < s.length := by omega
            rw [List.drop_eq_getElem_cons h2, loopA_back] at hE
            by_cases h47 : s[k + 1] = 47
            · rw [if_pos h47] at hE
              have HZ := Lib.hid hE
              clear hE hdc HE
              go_wp2_with (fail)
              go_ret2
              exact ⟨by rw [HZ.out]; rfl, HB.out⟩
            · rw [if_neg h47] at hE
              have HZ := Lib.hid hE
              generalize hd : s[k + 1] = d at *
              have h47' := u8_ne (n := 47) (by omega) h47
              clear hE hdc HE h47
              go_wp2_with (fail)
              go_roundw
              case rel => exact ⟨k + 2, true, by omega, by go_num, rfl, HZ, HB⟩
              case measure => simp [intOf]; omega
          · have d1 : ((k : Int) == (s.length : Int) - 1) = true := by rw [beq_iff_eq]; omega
            rw [List.drop_eq_nil_of_le (by omega), loopA_back0] at hE
            have HZ := Lib.hid hE
            clear hE hdc HE
            go_wp2_with (fail)
            go_ret2
            exact ⟨by rw [HZ.out]; rfl, HB.out⟩
        by_cases h91 : s[k] = 91
        · have hcl := HCL.out k wr hlt
          rw [hdc, h91] at hcl
          rw [h91] at hE
          clear h47 h92
          cases hc : closeP (91 :: s.drop (k + 1)) with
          | none =>
            rw [loopA_set_none hc] at hE
            rw [hc] at hcl
            have HZ := Lib.hid hE
            have HCC := Lib.hid hcl
            clear hE hdc HE hcl hc
            go_wp2_with (fail)
            refine HCC.out.mono ?_
            rintro e w2 ⟨rfl, hw2⟩
            go_wp2_with (fail)
            go_ret2
            exact ⟨by rw [HZ.out]; rfl, HB.out.trans (hw2.mono HB.out.size)⟩
          | some e =>
            rw [loopA_set_some hc] at hE
            rw [hc] at hcl
            have hel : e < (91 :: s.drop (k + 1)).length := by
              have h1 : setFrom (91 :: s.drop (k + 1)) ≤ e ∧ e < setFrom (91 :: s.drop (k + 1)) + ((91 :: s.drop (k + 1)).drop (setFrom (91 :: s.drop (k + 1)))).length ∧ e ≠ setFrom (91 :: s.drop (k + 1)) ∧ ((91 :: s.drop (k + 1)).drop (setFrom (91 :: s.drop (k + 1)))).getD (e - setFrom (91 :: s.drop (k + 1))) 0 = 93 := closeF_le _ _ _ _ _ (Nat.le_refl _) hc
              have h2 := h1.2.1
              rw [List.length_drop] at h2
              omega
            simp only [List.length_cons, List.length_drop] at hel
            have hdd : (91 :: s.drop (k + 1)).drop (e + 1) = s.drop (k + e + 1) := by rw [List.drop_succ_cons, List.drop_drop]; congr 1; omega
            rw [hdd] at hE
            have HZ := Lib.hid hE
            have HCC := Lib.hid hcl
            have d5 : decide ((((k + e : Nat)) : Int) < 0) = false := by rw [decide_eq_false_iff_not]; omega
            have d6 : decide ((k : Int) + (e : Int) < 0) = false := by rw [decide_eq_false_iff_not]; omega
            clear hE hdc HE hcl hc hdd
            go_wp2_with (fail)
            refine HCC.out.mono ?_
            rintro e' w2 ⟨rfl, hw2⟩
            have HB2 := Lib.hid (HB.out.trans (hw2.mono HB.out.size))
            clear hw2
            simp only [clI]
            go_wp2_with (fail)
            go_roundw
            case rel => exact ⟨k + e + 1, true, by omega, by go_num, rfl, HZ, HB2⟩
            case measure => simp [intOf]; omega
        · rw [loopA_one h47 h92 h91] at hE
          have HZ := Lib.hid hE
          generalize hc : s[k] = c at *
          have h47' := u8_ne (n := 47) (by omega) h47
          have h92' := u8_ne (n := 92) (by omega) h92
          have h91' := u8_ne (n := 91) (by omega) h91
          clear hE hdc HE h47 h92 h91
          go_wp2_with (fail)
          go_roundw
          case rel => exact ⟨k + 1, true, by omega, by go_num, rfl, HZ, HB⟩
          case measure => simp [intOf]; omega
      · obtain rfl : k = s.length := by omega
        have hE := HE.out
        rw [List.drop_length, loopA_nil] at hE
        have HZ := Lib.hid hE
        clear hE HE
        go_wp2_with (fail)
        go_ret2
        exact ⟨by rw [HZ.out]; rfl, HB.out⟩
end Go.Proofs.YtjhjepkmcbjgoaaDoor
end

/- hawserref02.holds. -/
section
set_option linter.unusedVariables false
namespace Go.Proofs.YtjhjepkmcbjgoaaDoor
open Go.RowKit Plain

theorem info_boolR : (Tryd.prog.info? 4).map (fun i => (i.zero, i.size, i.bytes)) = some (some (.bool false), 1, 1) := by kernel_rfl
/-- rows of unlike elements lie apart -/
theorem own_unlike {w w' : World} {b b' : Nat} {e e' : TypeId} {size size' n n' : Nat} {v u : Value} {xs ys : List Value} (hv : w.ownsRow b e size v n xs) (hu : w.ownsRow b' e' size' u n' ys) (he : e ≠ e') (hg : w.grownBy w' u.ownBlock) : w'.ownsRow b e size v n xs := by
  refine ⟨hv.1, ?_⟩
  rcases hv.2 with h | ⟨g, cap, cur, rfl, hbg, hh, hr⟩
  · exact .inl h
  · refine .inr ⟨g, cap, cur, rfl, hbg, ?_, hr⟩
    rw [hg.block g (Array.getElem?_eq_some_iff.1 hh).1 (fun e1 => by
      rcases hu.2 with ⟨hv2, _⟩ | ⟨g2, cap2, cur2, rfl, _, hh2, _⟩
      · rw [hv2] at e1; cases e1
      · have e2 : g = g2 := by injection e1
        rw [← e2, hh] at hh2
        injection hh2 with hh2
        injection hh2 with _ h3 _
        exact he h3)]
    exact hh

namespace Plain
theorem litsR_cons (e : Bool) (x : List UInt8) (l : List (List UInt8)) : litsR e (x :: l) = if x = [92] ∧ e = false then litsR true l else (x, e) :: litsR false l := rfl
theorem evenR_cons (e : Bool) (x : List UInt8) (l : List (List UInt8)) : evenR e (x :: l) = if x = [92] ∧ e = false then evenR true l else evenR false l := rfl
def dashOf (x : List UInt8 × Bool) : Bool := x.1 == [45] && !x.2
theorem dashOf_iff {x : List UInt8 × Bool} : dashOf x = true ↔ x = ([45], false) := by
  obtain ⟨a, b⟩ := x
  unfold dashOf
  simp
theorem holdL_dash_at {L : List (List UInt8 × Bool)} {r : List UInt8} {o : Nat} (h : o + 2 < L.length) (hd : L[o + 1] = ([45], false)) : holdL (L.drop o) r = ((leT L[o].1 r && leT r L[o + 2].1) || holdL (L.drop (o + 3)) r) := by
  have h1 : L.drop o = L[o] :: L[o + 1] :: L[o + 2] :: L.drop (o + 3) := by
    rw [List.drop_eq_getElem_cons (by omega), List.drop_eq_getElem_cons (show o + 1 < L.length by omega), List.drop_eq_getElem_cons (show o + 1 + 1 < L.length by omega)]
  rw [h1]
  show (if L[o + 1] = ([45], false) then _ else _) = _
  rw [if_pos hd]
theorem holdL_one_at {L : List (List UInt8 × Bool)} {r : List UInt8} {o : Nat} (h0 : o < L.length) (h : ∀ h : o + 2 < L.length, L[o + 1] ≠ ([45], false)) : holdL (L.drop o) r = ((L[o].1 == r) || holdL (L.drop (o + 1)) r) := by
  rw [List.drop_eq_getElem_cons h0]
  by_cases h1 : o + 1 < L.length
  · rw [List.drop_eq_getElem_cons h1]
    by_cases h2 : o + 2 < L.length
    · rw [List.drop_eq_getElem_cons (show o + 1 + 1 < L.length by omega)]
      show (if L[o + 1] = ([45], false) then _ else _) = _
      rw [if_neg (h h2)]
    · rw [List.drop_eq_nil_of_le (show L.length ≤ o + 1 + 1 by omega)]
      rfl
  · rw [List.drop_eq_nil_of_le (show L.length ≤ o + 1 by omega)]
    show (L[o].1 == r) = _
    simp [holdL]
theorem leT_or : ∀ (a b : List UInt8), leT a b = (Op.bytesLess a b || a == b)
  | [], [] => rfl
  | [], _ :: _ => rfl
  | _ :: _, [] => rfl
  | a :: x, b :: y => by
    have ih := leT_or x y
    unfold leT at ih ⊢
    show (!(b < a || (b == a && Op.bytesLess y x))) = ((a < b || (a == b && Op.bytesLess x y)) || (a == b && x == y))
    by_cases e : a = b
    · subst e
      have h0 : ¬ a < a := fun h => absurd (UInt8.lt_iff_toNat_lt.1 h) (by omega)
      simp only [h0, decide_false, Bool.false_or, beq_self_eq_true, Bool.true_and]
      exact ih
    · have h1 : (a == b) = false := beq_eq_false_iff_ne.2 e
      have h2 : (b == a) = false := beq_eq_false_iff_ne.2 (Ne.symm e)
      simp only [h1, h2, Bool.false_and, Bool.or_false]
      have h3 : a.toNat ≠ b.toNat := fun h => e (UInt8.toNat_inj.1 h)
      by_cases h : b < a
      · have h4 : ¬ a < b := fun h5 => by
          have := UInt8.lt_iff_toNat_lt.1 h
          have := UInt8.lt_iff_toNat_lt.1 h5
          omega
        simp [h, h4]
      · have h4 : a < b := UInt8.lt_iff_toNat_lt.2 (by
          have : ¬ b.toNat < a.toNat := fun h6 => h (UInt8.lt_iff_toNat_lt.2 h6)
          omega)
        simp [h, h4]
theorem holdL_end {L : List (List UInt8 × Bool)} {r : List UInt8} {o : Nat} (h : L.length ≤ o) : holdL (L.drop o) r = false := by
  rw [List.drop_eq_nil_of_le h]; rfl
end Plain

set_option maxHeartbeats 4000000 in
set_option maxRecDepth 100000 in
theorem holds_ref (s t : List UInt8) (w : World) (hv : Lib.validD s = true) (hev : evenR false (runesP s) = true) (hs : s.length ≤ 65536) :
    Calls Tryd.prog 72 #[.string ⟨s.toArray⟩, .string ⟨t.toArray⟩] w (Ret w (.bool (holdL (litsP (runesP s)) t))) := by
  obtain ⟨i0, hi, hz0, hz1, hz2⟩ := info_parts info_strR
  obtain ⟨j0, hj, jz0, jz1, jz2⟩ := info_parts info_boolR
  have HI := Lib.hid hi
  have HJ := Lib.hid hj
  have hR := Runes_ref s w hv hs
  have hXl := lits_le s hv s.length (Nat.le_refl _)
  rw [litsP_R _ _ (Nat.le_refl _)]
  have hLl := litsR_length (runesP s) false
  generalize runesP s = X at *
  generalize hres : holdL (litsR false X) t = res
  have HRES := Lib.hid hres
  have HR := Lib.hid hR
  have HEV := Lib.hid hev
  clear hi hj hR hres hev hv
  go_enter Tryd.func72, Tryd.ntmps72
  go_wp2_with (fail)
  refine HR.out.mono ?_
  rintro e w1 ⟨AX, cX, rfl, hcX, hmX, hrX, hw1, _⟩
  have HX := Lib.hid hrX
  have HB1 := Lib.hid hw1
  have hz1' := hw1.size
  clear hrX hw1
  go_wp2_with (fail)
  go_loopw [5, 6, 8] (fun t5 t6 t8 W => ∃ (i : Nat) (acc : List (List UInt8 × Bool)), i ≤ X.length ∧ acc.length ≤ i ∧ t8 = .int .i64 i ∧ Hid (W.ownsRow w1.heap.size 9 1 t5 acc.length (strs (acc.map (·.1)))) ∧ Hid (W.ownsRow w1.heap.size 4 1 t6 acc.length (bools (acc.map dashOf))) ∧
    Hid (acc ++ litsR false (X.drop i) = litsR false X) ∧ Hid (evenR false (X.drop i) = true) ∧ Hid (Below w1.heap.size w1 W)) (fun _ _ t8 _ => X.length - (intOf t8).toNat)
  case atStart => exact ⟨0, [], by omega, by simp, rfl, Lib.hid (World.ownsRow_nil _ _ _ _), Lib.hid (World.ownsRow_nil _ _ _ _), Lib.hid rfl, HEV, Lib.hid (Below.refl _ _)⟩
  case round =>
    obtain ⟨i, acc, hi, hai, rfl, HO, HD, HE, HEI, HB⟩ := hrel
    have i0' : (0 : Int) ≤ i := by omega
    have e1 : IntKind.i64.wrap ((i : Int) + 1) = (i : Int) + 1 := IntWalk.i64_in _ (by omega)
    have e2 : ((i : Int) + 1).toNat = i + 1 := by omega
    have e3 : (0 : Int) ≤ (i : Int) + 1 := by omega
    by_cases hlt : i < X.length
    · have i1 : (i : Int) < X.length := by omega
      have hdc := List.drop_eq_getElem_cons hlt
      obtain ⟨ad, rfl, cX0⟩ := (HX.out.below HB.out).str_at hlt
      have hE := HE.out
      have hEI := HEI.out
      rw [hdc] at hE hEI
      have HCX := Lib.hid (fun W (h : Below wr.heap.size wr W) => (h.cell (World.block_lt_of_cell? _ _ cX0)).trans cX0)
      by_cases h92 : X[i] = [92]
      · rw [h92] at hE hEI
        rw [litsR_cons, if_pos ⟨rfl, rfl⟩] at hE
        rw [evenR_cons, if_pos ⟨rfl, rfl⟩] at hEI
        have hlt2 : i + 1 < X.length := by
          rcases Nat.lt_or_ge (i + 1) X.length with h | h
          · exact h
          · rw [List.drop_eq_nil_of_le h] at hEI; cases hEI
        have i2 : (i : Int) + 1 < X.length := by omega
        rw [List.drop_eq_getElem_cons hlt2] at hE hEI
        rw [litsR_cons, if_neg (fun c => by cases c.2)] at hE
        rw [evenR_cons, if_neg (fun c => by cases c.2)] at hEI
        obtain ⟨ad', hae, cX1⟩ := (HX.out.below HB.out).str_at hlt2
        injection hae with hae
        subst hae
        generalize X[i + 1] = y at *
        have HE2 := Lib.hid (show (acc ++ [(y, true)]) ++ litsR false (X.drop (i + 1 + 1)) = litsR false X by rw [← hE]; simp)
        have HEI2 := Lib.hid hEI
        have hb92 : (X[i] == [92]) = true := by rw [h92]; rfl
        rw [h92] at cX0
        rw [Addr.add, if_neg (by omega)] at cX1
        clear hE hEI hdc
        go_wp2_with (at_builtin; refine wpList_append_own _ rfl _ _ 60 rfl w1.heap.size 9 i0 _ 1 16 Tryd.underlying60 HI.out hz0 hz1 hz2 rfl (by decide) _ _ _ rfl (HO.out.alloc _) ⟨wr.heap.size, 0, none⟩ 1 1 [.string ⟨y.toArray⟩] rfl rfl (laid_one _ _ _) (one_oneCell rfl) (by unfold maxLen; omega) (by omega) (by have := HB.out.size; simp; omega) ?_)
        intro v5 w5 hown5 hg5 _
        have hb5 : Below w1.heap.size w1 w5 := (HB.out.alloc HB.out.size _).grown hg5 (by have := HB.out.size; simp; omega) (fun k hk => (HO.out.lt k hk).1)
        have HD5 := Lib.hid (own_unlike (HD.out.alloc (.cells #[.string ⟨y.toArray⟩] 9)) (HO.out.alloc (.cells #[.string ⟨y.toArray⟩] 9)) (by decide) hg5)
        have HO5 := Lib.hid (show w5.ownsRow w1.heap.size 9 1 v5 (acc.length + 1) (strs ((acc ++ [(y, true)]).map (·.1))) by rw [List.map_append, strs_append]; exact hown5)
        have HB5 := Lib.hid hb5
        clear hown5 hg5 hb5 HO HD
        go_wp2_with (at_builtin; refine wpList_append_own _ rfl _ _ 111 rfl w1.heap.size 4 j0 _ 1 1 Tryd.underlying111 HJ.out jz0 jz1 jz2 rfl (by decide) _ _ _ rfl (HD5.out.alloc _) ⟨w5.heap.size, 0, none⟩ 1 1 [.bool false] rfl rfl (laid_one _ _ _) (one_oneCell rfl) (by unfold maxLen; omega) (by omega) (by have := HB5.out.size; simp; omega) ?_)
        intro v6 w6 hown6 hg6 _
        have hb6 : Below w1.heap.size w1 w6 := (HB5.out.alloc HB5.out.size _).grown hg6 (by have := HB5.out.size; simp; omega) (fun k hk => (HD5.out.lt k hk).1)
        have HO6 := Lib.hid (own_unlike (HO5.out.alloc (.cells #[.bool false] 4)) (HD5.out.alloc (.cells #[.bool false] 4)) (by decide) hg6)
        have HD6 := Lib.hid (show w6.ownsRow w1.heap.size 4 1 v6 (acc.length + 1) (bools ((acc ++ [(y, true)]).map dashOf)) by simpa [bools, dashOf] using hown6)
        have HB6 := Lib.hid hb6
        have hal : (acc ++ [(y, true)]).length = acc.length + 1 := by simp
        rw [← hal] at HO6 HD6
        clear hown6 hg6 hb6 HD5 HO5 hal
        go_wp2_with (fail)
        go_roundw
        case rel => exact ⟨i + 1 + 1, acc ++ [(y, true)], by omega, by simp; omega, by go_num, HO6, HD6, HE2, HEI2, HB6⟩
        case measure => simp [intOf]; omega
      · rw [litsR_cons, if_neg (fun c => h92 c.1)] at hE
        rw [evenR_cons, if_neg (fun c => h92 c.1)] at hEI
        have hb92 : (X[i] == [92]) = false := by rw [beq_eq_false_iff_ne]; exact h92
        generalize hy : X[i] = y at *
        have HE2 := Lib.hid (show (acc ++ [(y, false)]) ++ litsR false (X.drop (i + 1)) = litsR false X by rw [← hE]; simp)
        have HEI2 := Lib.hid hEI
        have HY5 := Lib.hid (fun W (h : Below w1.heap.size w1 W) => show W.cell? (ad.add i) = some (.string ⟨y.toArray⟩) by
          obtain ⟨ad2, ha, hc⟩ := (HX.out.below h).str_at hlt
          injection ha with ha
          subst ha
          rw [hy] at hc; exact hc)
        clear hE hEI hdc h92 hy HCX
        go_wp2_with (at_builtin; refine wpList_append_own _ rfl _ _ 60 rfl w1.heap.size 9 i0 _ 1 16 Tryd.underlying60 HI.out hz0 hz1 hz2 rfl (by decide) _ _ _ rfl (HO.out.alloc _) ⟨wr.heap.size, 0, none⟩ 1 1 [.string ⟨y.toArray⟩] rfl rfl (laid_one _ _ _) (one_oneCell rfl) (by unfold maxLen; omega) (by omega) (by have := HB.out.size; simp; omega) ?_)
        intro v5 w5 hown5 hg5 _
        have hb5 : Below w1.heap.size w1 w5 := (HB.out.alloc HB.out.size _).grown hg5 (by have := HB.out.size; simp; omega) (fun k hk => (HO.out.lt k hk).1)
        have cX5 := HY5.out w5 hb5
        have HD5 := Lib.hid (own_unlike (HD.out.alloc (.cells #[.string ⟨y.toArray⟩] 9)) (HO.out.alloc (.cells #[.string ⟨y.toArray⟩] 9)) (by decide) hg5)
        have HO5 := Lib.hid (show w5.ownsRow w1.heap.size 9 1 v5 (acc.length + 1) (strs ((acc ++ [(y, false)]).map (·.1))) by rw [List.map_append, strs_append]; exact hown5)
        have HB5 := Lib.hid hb5
        clear hown5 hg5 hb5 HO HD
        go_wp2_with (at_builtin; refine wpList_append_own _ rfl _ _ 111 rfl w1.heap.size 4 j0 _ 1 1 Tryd.underlying111 HJ.out jz0 jz1 jz2 rfl (by decide) _ _ _ rfl (HD5.out.alloc _) ⟨w5.heap.size, 0, none⟩ 1 1 [.bool (y == [45])] rfl rfl (laid_one _ _ _) (one_oneCell rfl) (by unfold maxLen; omega) (by omega) (by have := HB5.out.size; simp; omega) ?_)
        intro v6 w6 hown6 hg6 _
        have hb6 : Below w1.heap.size w1 w6 := (HB5.out.alloc HB5.out.size _).grown hg6 (by have := HB5.out.size; simp; omega) (fun k hk => (HD5.out.lt k hk).1)
        have HO6 := Lib.hid (own_unlike (HO5.out.alloc (.cells #[.bool (y == [45])] 4)) (HD5.out.alloc (.cells #[.bool (y == [45])] 4)) (by decide) hg6)
        have HD6 := Lib.hid (show w6.ownsRow w1.heap.size 4 1 v6 (acc.length + 1) (bools ((acc ++ [(y, false)]).map dashOf)) by simpa [bools, dashOf] using hown6)
        have HB6 := Lib.hid hb6
        have hal : (acc ++ [(y, false)]).length = acc.length + 1 := by simp
        rw [← hal] at HO6 HD6
        clear hown6 hg6 hb6 HD5 HO5 hal cX5
        go_wp2_with (fail)
        go_roundw
        case rel => exact ⟨i + 1, acc ++ [(y, false)], by omega, by simp; omega, by go_num, HO6, HD6, HE2, HEI2, HB6⟩
        case measure => simp [intOf]; omega
    · obtain rfl : i = X.length := by omega
      have hL : acc = litsR false X := by
        have := HE.out
        rw [List.drop_length] at this
        simpa [litsR] using this
      rw [hL] at HO HD hai
      clear hL HE HEI HEV
      generalize litsR false X = L at *
      obtain ⟨AL, cL, rfl, hcL, hmL, hrL⟩ := IsSlice.of_own HO.out
      obtain ⟨AD, cD, rfl, hcD, hmD, hrD⟩ := IsSlice.of_own HD.out
      have hml : (L.map (·.1)).length = L.length := by simp
      have hmd : (L.map dashOf).length = L.length := by simp
      have hcell : ∀ k (h : k < L.length), ∃ ad, AL = some ad ∧ wr.cell? (ad.add k) = some (.string ⟨L[k].1.toArray⟩) := fun k h => by
        obtain ⟨ad, e, c⟩ := Reads.str_at (l := L.map (·.1)) (k := k) (by rw [hml]; exact hrL) (by rw [hml]; exact h)
        exact ⟨ad, e, by simpa using c⟩
      have hdcell : ∀ k (h : k < L.length), ∃ ad, AD = some ad ∧ wr.cell? (ad.add k) = some (.bool (dashOf L[k])) := fun k h => by
        obtain ⟨ad, e, c⟩ := Reads.bool_at (l := L.map dashOf) (k := k) (by rw [hmd]; exact hrD) (by rw [hmd]; exact h)
        exact ⟨ad, e, by simpa using c⟩
      have HCL := Lib.hid hcell
      have HCD := Lib.hid hdcell
      have hLn : L.length ≤ 65536 := by omega
      clear hcell hdcell hrL hrD HO HD hml hmd
      have HBF := Lib.hid (HB1.out.trans (HB.out.mono hz1'))
      go_wp2_with (fail)
      go_loopw [9] (fun t9 W => ∃ o : Nat, o ≤ L.length ∧ t9 = .int .i64 o ∧ Hid (holdL L t = holdL (L.drop o) t) ∧ W = wr) (fun t9 _ => L.length - (intOf t9).toNat)
      case atStart => exact ⟨0, by omega, rfl, Lib.hid rfl, rfl⟩
      case round =>
        obtain ⟨o, ho, rfl, HEO, rfl⟩ := hrel
        have o0 : (0 : Int) ≤ o := by omega
        have q1 : IntKind.i64.wrap ((o : Int) + 2) = (o : Int) + 2 := IntWalk.i64_in _ (by omega)
        have q2 : ((o : Int) + 2).toNat = o + 2 := by omega
        have q3 : (0 : Int) ≤ (o : Int) + 2 := by omega
        have q4 : IntKind.i64.wrap ((o : Int) + 1) = (o : Int) + 1 := IntWalk.i64_in _ (by omega)
        have q5 : ((o : Int) + 1).toNat = o + 1 := by omega
        have q6 : (0 : Int) ≤ (o : Int) + 1 := by omega
        by_cases hol : o < L.length
        · have o1 : (o : Int) < L.length := by omega
          obtain ⟨al, rfl, c0⟩ := HCL.out o hol
          have hone := holdL_one_at (L := L) (r := t) (o := o) hol
          by_cases h2 : o + 2 < L.length
          · have d2 : (o : Int) + 2 < L.length := by omega
            have d3 : (o : Int) + 1 < L.length := by omega
            obtain ⟨ad', rfl, c1⟩ := HCD.out (o + 1) (by omega)
            rw [Addr.add, if_neg (by omega)] at c1
            cases hdash : dashOf L[o + 1] with
            | true =>
              rw [hdash] at c1
              obtain ⟨al2, hae, c2⟩ := HCL.out (o + 2) h2
              injection hae with hae
              subst hae
              rw [Addr.add, if_neg (by omega)] at c2
              have hds := holdL_dash_at (L := L) (r := t) (o := o) h2 (dashOf_iff.1 hdash)
              rw [leT_or, leT_or] at hds
              generalize L[o].1 = x at *
              generalize L[o + 2].1 = z at *
              clear hone hdash
              cases ha : Op.bytesLess x t <;> cases ha' : x == t <;> cases hb : Op.bytesLess t z <;> cases hb' : t == z <;> rw [ha, ha', hb, hb'] at hds <;> first
              | have HE2 := Lib.hid (show holdL L t = holdL (L.drop (o + 3)) t by rw [HEO.out, hds]; simp; done)
                clear hds
                go_wp2_with (fail)
                go_roundw
                case rel => exact ⟨o + 3, by omega, by go_num, HE2, by first | trivial | rfl⟩
                case measure => simp [intOf]; omega
              | have HR2 := Lib.hid (show res = true by rw [← HRES.out, HEO.out, hds]; simp; done)
                clear hds
                go_wp2_with (fail)
                go_ret
                exact ⟨by rw [HR2.out]; rfl, HBF.out⟩
            | false =>
              rw [hdash] at c1
              have hone' := hone (fun _ e => by rw [dashOf_iff.2 e] at hdash; cases hdash)
              generalize L[o].1 = x at *
              clear hone hdash
              cases hx : x == t with
              | true =>
                rw [hx] at hone'
                have HR2 := Lib.hid (show res = true by rw [← HRES.out, HEO.out, hone']; simp)
                clear hone'
                go_wp2_with (fail)
                go_ret
                exact ⟨by rw [HR2.out]; rfl, HBF.out⟩
              | false =>
                rw [hx, Bool.false_or] at hone'
                have HE2 := Lib.hid (HEO.out.trans hone')
                clear hone'
                go_wp2_with (fail)
                go_roundw
                case rel => exact ⟨o + 1, by omega, by go_num, HE2, by first | trivial | rfl⟩
                case measure => simp [intOf]; omega
          · have d2 : decide ((o : Int) + 2 < (L.length : Int)) = false := by rw [decide_eq_false_iff_not]; omega
            have hone' := hone (fun h _ => absurd h h2)
            generalize L[o].1 = x at *
            clear hone
            cases hx : x == t with
            | true =>
              rw [hx] at hone'
              have HR2 := Lib.hid (show res = true by rw [← HRES.out, HEO.out, hone']; simp)
              clear hone'
              go_wp2_with (fail)
              go_ret
              exact ⟨by rw [HR2.out]; rfl, HBF.out⟩
            | false =>
              rw [hx, Bool.false_or] at hone'
              have HE2 := Lib.hid (HEO.out.trans hone')
              clear hone'
              go_wp2_with (fail)
              go_roundw
              case rel => exact ⟨o + 1, by omega, by go_num, HE2, by first | trivial | rfl⟩
              case measure => simp [intOf]; omega
        · have HR2 := Lib.hid (show res = false by rw [← HRES.out, HEO.out, holdL_end (by omega)])
          go_wp2_with (fail)
          go_ret
          exact ⟨by rw [HR2.out]; rfl, HBF.out⟩
end Go.Proofs.YtjhjepkmcbjgoaaDoor
end
