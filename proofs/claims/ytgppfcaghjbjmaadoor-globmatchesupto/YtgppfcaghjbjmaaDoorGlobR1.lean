/- hawserref02: Runes, bad. -/
import Derived.Test.YtgppfcaghjbjmaaDoorGlob2
import Derived.Test.YtgppfcaghjbjmaaDoorPlainGlobR
import Derived.Test.YtgppfcaghjbjmaaDoorNameRef
set_option linter.unusedVariables false
namespace Go.Proofs.YtgppfcaghjbjmaaDoor
open Go.RowKit Plain

namespace Plain
theorem badAt_spec : ∀ (n : Nat) (l : List UInt8) (k j : Nat), l.length ≤ n → badAt k l = some j → ∃ i, j = k + i ∧ i < l.length ∧ Lib.validD (l.take i) = true ∧ runeW (l.drop i) = 0 := by
  intro n
  induction n with
  | zero =>
    intro l k j h1 h2
    have : l = [] := List.eq_nil_of_length_eq_zero (by omega)
    subst this
    rw [badAt_nil] at h2; cases h2
  | succ n ih =>
    intro l k j h1 h2
    by_cases hne : l = []
    · subst hne; rw [badAt_nil] at h2; cases h2
    · have hl : 0 < l.length := List.length_pos_iff.2 hne
      rw [badAt_step hne] at h2
      by_cases h0 : runeW l = 0
      · rw [if_pos h0] at h2
        injection h2 with h2
        exact ⟨0, by omega, hl, by rw [List.take_zero]; rfl, by simpa using h0⟩
      · rw [if_neg h0] at h2
        have hwl := runeW_le' hne
        obtain ⟨i, e1, e2, e3, e4⟩ := ih _ _ _ (by simp; omega) h2
        simp only [List.length_drop] at e2
        refine ⟨runeW l + i, by omega, by omega, ?_, by rw [List.drop_drop] at e4; exact e4⟩
        have hw := runeW_take (e := runeW l + i) (show 1 ≤ runeW l by omega) (by omega) (by omega)
        have hr := validD_rune (l.take (runeW l + i)) 0 (by simp; omega)
        simp only [List.drop_zero, Nat.zero_add] at hr
        rw [hr, hw, if_neg h0, List.drop_take, show runeW l + i - runeW l = i by omega]
        exact e3
theorem runeW_max {l : List UInt8} (hne : l ≠ []) (h : 1 ≤ runeW l) : runeW l ≤ 4 := by
  obtain ⟨hr, _, hlen⟩ := runeT_rune hne h
  rw [← hlen]
  have hf := rune_form hr
  generalize runeT l = t at *
  generalize valR t = v at *
  cases hf <;> simp
theorem valid_one {l : List UInt8} (hne : l ≠ []) (h : 1 ≤ runeW l) : Lib.validD (l.take (runeW l)) = true := by
  have hwl := runeW_le' hne
  have hw := runeW_take h (Nat.le_refl _) hwl
  have hl : 0 < l.length := List.length_pos_iff.2 hne
  have hr := validD_rune (l.take (runeW l)) 0 (by simp; omega)
  simp only [List.drop_zero, Nat.zero_add] at hr
  rw [hr, hw, if_neg (by omega), List.drop_eq_nil_of_le (by rw [List.length_take]; exact Nat.min_le_left _ _)]
  rfl
theorem valid_none {l : List UInt8} {n : Nat} (hn : 1 ≤ n) (hl : n ≤ l.length) (h : runeW l = 0) : Lib.validD (l.take n) = false := by
  rw [← Bool.not_eq_true]
  intro hv
  have hne : l.take n ≠ [] := by
    intro e
    have h0 : (l.take n).length = 0 := by rw [e]; rfl
    rw [List.length_take] at h0
    omega
  have := (valid_next hne hv).1
  rw [← runeW_ext this hl hne] at this
  omega
end Plain

theorem info_strR : (Tryd.prog.info? 9).map (fun i => (i.zero, i.size, i.bytes)) = some (some (.string ByteArray.empty), 1, 16) := by kernel_rfl

set_option maxHeartbeats 2000000 in
set_option maxRecDepth 100000 in
theorem Runes_ref (s : List UInt8) (w : World) (hv : Lib.validD s = true) (hs : s.length ≤ 65536) :
    Calls Tryd.prog 28 #[.string ⟨s.toArray⟩] w (StrsOut w (runesP s)) := by
  obtain ⟨i0, hi, hz0, hz1, hz2⟩ := info_parts info_strR
  have HI := Lib.hid hi
  have HV := Lib.hid hv
  clear hi hv
  go_enter Tryd.func28, Tryd.ntmps28
  go_wp2_with (fail)
  go_loopw [3, 4] (fun t3 t4 W => ∃ (k : Nat) (d : List (List UInt8)), k ≤ s.length ∧ t4 = .int .i64 k ∧ d.length ≤ k ∧ Hid (W.ownsRow w.heap.size 9 1 t3 d.length (strs d)) ∧ Hid (runesP s = d ++ runesP (s.drop k)) ∧ Hid (Lib.validD (s.drop k) = true) ∧ Hid (Below w.heap.size w W)) (fun _ t4 _ => s.length - (intOf t4).toNat)
  case atStart => exact ⟨0, [], by omega, rfl, by simp, Lib.hid (World.ownsRow_nil _ _ _ _), Lib.hid rfl, HV, Lib.hid (Below.refl _ _)⟩
  case round =>
    clear HV
    obtain ⟨k, d, hk, rfl, hd, HO, HE, HVK, HB⟩ := hrel
    have hk0 : (0 : Int) ≤ k := by omega
    by_cases hlt : k < s.length
    · have hne : s.drop k ≠ [] := by intro e; have := congrArg List.length e; simp at this; omega
      obtain ⟨hw1, hv2⟩ := valid_next hne HVK.out
      have hwl := runeW_le' hne
      rw [List.length_drop] at hwl
      obtain ⟨hc1, hc2⟩ := rune_cont hne HVK.out
      have hstop := fun h => rune_stop hne HVK.out h
      have hst := runesP_step hne hw1
      rw [List.drop_drop] at hv2 hst
      have hgd : ∀ j, (s.drop k).getD j 0 = s.getD (k + j) 0 := fun j => by rw [List.getD_eq_getElem?_getD, List.getElem?_drop, ← List.getD_eq_getElem?_getD]
      have hrt : runeT (s.drop k) = (s.drop k).take (runeW (s.drop k)) := rfl
      rw [List.length_drop] at hstop
      generalize hww : runeW (s.drop k) = m at *
      have hcb : ∀ j (h : k + j < s.length), 1 ≤ j → j < m → (128 : Int) ≤ (s[k + j].toNat : Int) ∧ (s[k + j].toNat : Int) ≤ 191 := fun j h a b => by
        have := contB_iff.1 (hc1 j a b)
        rw [hgd, show s.getD (k + j) 0 = s[k + j] by simp [List.getD, h]] at this
        omega
      have hsb : ∀ (h : k + m < s.length), ¬ ((128 : Int) ≤ (s[k + m].toNat : Int) ∧ (s[k + m].toNat : Int) ≤ 191) := fun h c => by
        have := hstop (by omega)
        rw [hgd, show s.getD (k + m) 0 = s[k + m] by simp [List.getD, h]] at this
        rw [← Bool.not_eq_true] at this
        exact this (contB_iff.2 (by omega))
      have HST := Lib.hid hst
      have HV2 := Lib.hid hv2
      have HCB := Lib.hid hcb
      have HSB := Lib.hid hsb
      have HRT := Lib.hid hrt
      clear hc1 hc2 hstop hst hv2 hgd hrt hcb hsb hww hne HVK
      go_wp2_with (fail)
      go_loopw [5] (fun t5 W => ∃ n : Nat, 1 ≤ n ∧ n ≤ m ∧ t5 = .int .i64 n ∧ W = wr) (fun t5 _ => m - (intOf t5).toNat)
      case atStart => exact ⟨1, by omega, by omega, rfl, rfl⟩
      case round =>
        obtain ⟨n, hn1, hnm, rfl, rfl⟩ := hrel
        have e1 : IntKind.i64.wrap ((k : Int) + (n : Int)) = (k : Int) + n := IntWalk.i64_in _ (by omega)
        have e2 : ((k : Int) + (n : Int)).toNat = k + n := by omega
        have e3 : (0 : Int) ≤ (k : Int) + n := by omega
        by_cases hn : n < m
        · have e4 : (k : Int) + n < s.length := by omega
          obtain ⟨f1, f2⟩ := HCB.out n (by omega) hn1 hn
          go_wp2_with (fail)
          go_roundw
          case rel => exact ⟨n + 1, by omega, by omega, by go_num, by first | trivial | rfl⟩
          case measure => simp [intOf]; omega
        · obtain rfl : n = m := by omega
          have hfin : runesP s = (d ++ [(s.drop k).take n]) ++ runesP (s.drop (k + n)) := by rw [HE.out, HST.out, ← HRT.out]; simp
          have HFIN := Lib.hid hfin
          clear hfin
          generalize hp : (s.drop k).take n = p at *
          have hp2 : (s.drop k).take (k + n - k) = p := by rw [show k + n - k = n by omega]; exact hp
          have HOA := Lib.hid (HO.out)
          rcases (show (¬ k + n < s.length) ∨ (∃ h : k + n < s.length, (s[k + n].toNat : Int) < 128) ∨ (∃ h : k + n < s.length, (128 : Int) ≤ (s[k + n].toNat : Int) ∧ (191 : Int) < (s[k + n].toNat : Int)) by
            by_cases h : k + n < s.length
            · have := HSB.out h
              by_cases q : (s[k + n].toNat : Int) < 128
              · exact .inr (.inl ⟨h, q⟩)
              · exact .inr (.inr ⟨h, by omega, by omega⟩)
            · exact .inl h) with hq | ⟨hq, hq1⟩ | ⟨hq, hq1, hq2⟩
          case' inl => have e4 : decide ((k : Int) + n < (s.length : Int)) = false := by rw [decide_eq_false_iff_not]; omega
          case' inr.inl => have e4 : (k : Int) + n < (s.length : Int) := by omega
          case' inr.inr => have e4 : (k : Int) + n < (s.length : Int) := by omega
          all_goals
            go_wp2_with (at_builtin; refine wpList_append_own _ rfl _ _ 41 rfl w.heap.size 9 i0 _ 1 16 Tryd.underlying41 HI.out hz0 hz1 hz2 rfl (by decide) _ _ _ rfl (HO.out.alloc _) ⟨wr.heap.size, 0, none⟩ 1 1 [.string ⟨p.toArray⟩] rfl rfl (laid_one _ _ _) (one_oneCell rfl) (by unfold maxLen; omega) (by omega) (by have := HB.out.size; simp; omega) ?_)
            intro v1 w1 hown1 hg1 _
            have hb1 : Below w.heap.size w w1 := (HB.out.alloc HB.out.size _).grown hg1 (by have := HB.out.size; simp; omega) (fun k hk => (HO.out.lt k hk).1)
            have hown2 : w1.ownsRow w.heap.size 9 1 v1 (d ++ [p]).length (strs (d ++ [p])) := by
              rw [strs_append, List.length_append]; exact hown1
            have HB1 := Lib.hid hb1
            have HO1 := Lib.hid hown2
            clear hg1 hb1 hown1 hown2
            go_wp2_with (fail)
            go_roundw
            all_goals first
              | exact ⟨k + n, d ++ [p], by omega, by go_num, by simp; omega, HO1, HFIN, HV2, HB1⟩
              | (simp [intOf]; omega)
    · obtain rfl : k = s.length := by omega
      have hee : runesP s = d := by have := HE.out; rw [List.drop_length, runesP_nil, List.append_nil] at this; exact this
      obtain ⟨A, c, rfl, hc, hm, hr, hA0⟩ := of_own0 HO.out
      have HEE := Lib.hid hee
      have HR := Lib.hid hr
      clear hee hr HO HE HVK
      go_wp2_with (fail)
      go_ret
      exact ⟨A, c, by rw [HEE.out]; rfl, by rw [HEE.out]; exact hc, hm, by rw [HEE.out]; exact HR.out, HB.out, hA0⟩
end Go.Proofs.YtgppfcaghjbjmaaDoor
