/- hawserlaw05.RecCut, where what it is handed is small: whatever list of texts and number the law is handed, it answers true: of records that are cut short just the whole ones are read. Condition: the bound of the second form. -/
import Derived.Test.YtfddhhaecfjepaaRecBack
namespace Go.Proofs.Ytfddhhaecfjepaa
open Go.RowKit Plain

/-- of records that are cut short just those are read that are whole -/
theorem all_cut : ∀ (l : List (List UInt8)), (∀ p ∈ l, p.length ≤ 1048576) → ∀ cut, cut ≤ (l.flatMap record).length →
    ∃ k, k ≤ l.length ∧ (all ((l.flatMap record).take cut)).1 = l.take k ∧ ((l.take k).flatMap record).length + (all ((l.flatMap record).take cut)).2.1.length = cut ∧
      (∀ h : k < l.length, cut < ((l.take k).flatMap record).length + (record l[k]).length)
  | [], _, cut, hc => by
    simp at hc
    subst hc
    exact ⟨0, by simp, by simp [all_nil], by simp [all_nil], fun h => by simp at h⟩
  | p :: l, h, cut, hc => by
    have hp := h p (by simp)
    simp only [List.flatMap_cons] at hc ⊢
    rw [List.length_append] at hc
    rcases Nat.lt_or_ge cut (record p).length with hlt | hge
    · refine ⟨0, by simp, ?_, ?_, fun _ => by simpa using hlt⟩
      all_goals
        rw [List.take_append_of_le_length (by omega)]
        by_cases h0 : (record p).take cut = []
        · have : cut = 0 := by
            rcases List.take_eq_nil_iff.1 h0 with h | h
            · exact h
            · rw [h] at hlt; simp at hlt
          subst this; simp [all_nil]
        · have he : (next ((record p).take cut)).2.2 ≠ 0 := by
            intro he
            have hr := record_of_next _ he
            have h1 : record p = record (next ((record p).take cut)).1 ++ ((next ((record p).take cut)).2.1 ++ (record p).drop cut) := by
              rw [← List.append_assoc, ← hr.1, List.take_append_drop]
            have h2 := next_record p [] hp
            have h3 := next_record (next ((record p).take cut)).1 ((next ((record p).take cut)).2.1 ++ (record p).drop cut) hr.2
            rw [List.append_nil, h1, h3] at h2
            simp only [Prod.mk.injEq] at h2
            have h4 := congrArg List.length h2.2.1
            simp at h4
            omega
          rw [all_err h0 he]
          simp
          try omega
    · obtain ⟨k, hk, h1, h2, h3⟩ := all_cut l (fun q hq => h q (by simp [hq])) (cut - (record p).length) (by omega)
      have ht : (record p ++ l.flatMap record).take cut = record p ++ (l.flatMap record).take (cut - (record p).length) := by
        rw [List.take_append, List.take_of_length_le hge]
      have hn := next_record p ((l.flatMap record).take (cut - (record p).length)) hp
      have hne : record p ++ (l.flatMap record).take (cut - (record p).length) ≠ [] := by
        intro e
        have := congrArg List.length e
        simp only [List.length_append, record_length, List.length_nil] at this
        omega
      rw [ht, all_more hne (by rw [hn]), hn]
      refine ⟨k + 1, by simp; omega, by simp [h1], ?_, fun hh => ?_⟩
      · simp only [List.take_succ_cons, List.flatMap_cons, List.length_append]; omega
      · have := h3 (by simpa using hh)
        simp only [List.take_succ_cons, List.flatMap_cons, List.length_append, List.getElem_cons_succ]; omega

set_option maxHeartbeats 1000000 in
theorem RecCut_any (A : Option Addr) (c : Nat) (l : List (List UInt8)) (cut : Int) (w : World) (hl : Reads w 1 A l.length (strs l)) (hlc : l.length ≤ c) (hc : c ≤ maxLen) (hw : weight l ≤ 1048576) (hcut : -9223372036854775808 ≤ cut ∧ cut ≤ 9223372036854775807) :
    Calls Try.prog 7 #[.slice A l.length c, .int .i64 cut] w (Ret w (.bool true)) := by
  unfold maxLen at hc
  have hlen := weight_length l
  have hj := join_size l
  have hall : ∀ p ∈ l, p.length ≤ 9223372036854775807 := fun p hp => by have := weight_mem hp; omega
  have HALL := Lib.hid hall
  clear hall
  have hjoin := fun w1 (hb1 : Below w.heap.size w w1) => Join_any A c l w1 (hl.below hb1) (by omega) (by omega) HALL.out
  rcases join_codes l with ⟨hjl, hok⟩ | hjl
  · rw [hjl] at hjoin
    have HJ := Lib.hid hjoin
    have HOK := Lib.hid hok
    clear hjoin hjl hok
    by_cases h0 : cut < 0
    · go_enter Try.func7, Try.ntmps7
      go_wp2_with (fail)
      refine (Ret.quiet (Below.refl _ _) (awake_any _)).mono ?_
      rintro e w1 ⟨rfl, hb1⟩
      go_wp2_with (fail)
      refine (Ret.quiet (hb1) (HJ.out _ hb1)).mono ?_
      rintro e w2 ⟨rfl, hb2⟩
      go_wp2_with (fail)
      go_ret
      exact ⟨rfl, hb2⟩
    obtain ⟨k, rfl⟩ := Int.eq_ofNat_of_zero_le (show 0 ≤ cut by omega)
    by_cases hbig : (l.flatMap record).length < k
    · generalize hsl : l.flatMap record = s at *
      have hb' : (s.length : Int) < k := by omega
      go_enter Try.func7, Try.ntmps7
      go_wp2_with (fail)
      refine (Ret.quiet (Below.refl _ _) (awake_any _)).mono ?_
      rintro e w1 ⟨rfl, hb1⟩
      go_wp2_with (fail)
      refine (Ret.quiet (hb1) (HJ.out _ hb1)).mono ?_
      rintro e w2 ⟨rfl, hb2⟩
      go_wp2_with (fail)
      go_ret
      exact ⟨rfl, hb2⟩
    obtain ⟨n, hn, hm, hat, hnext⟩ := all_cut l HOK.out k (by omega)
    have hfacts := (all_facts _ ((l.flatMap record).take k) (Nat.le_refl _)).2.2.2
    have hlenS : ((l.flatMap record).take k).length = k := by simp only [List.length_take]; omega
    have hAll := fun w1 => All_any ((l.flatMap record).take k) w1 (by omega)
    rw [hm, hlenS] at hAll
    have hfull : n = l.length → ((l.take n).flatMap record).length = (l.flatMap record).length := by
      intro e; rw [e, List.take_of_length_le (Nat.le_refl _)]
    have hokm : ∀ p ∈ l.take n, p.length ≤ 1048576 := fun p hp => HOK.out p (List.mem_of_mem_take hp)
    have hjm := join_ok hokm
    have hle : ((l.take n).flatMap record).length ≤ k := by omega
    have hmAll : ∀ p ∈ l.take n, p.length ≤ 9223372036854775807 := fun p hp => by have := hokm p hp; omega
    generalize hsl : l.flatMap record = s at *
    have hks : k ≤ s.length := by omega
    generalize hrest : (all (s.take k)).2.1 = rest at *
    generalize (all (s.take k)).2.2 = f at *
    have hka : k - rest.length = ((l.take n).flatMap record).length := by omega
    rw [hka] at hAll
    generalize hfm : (l.take n).flatMap record = m at *
    obtain ⟨bb, hbe, hbK⟩ : ∃ bb : Bool, ((f : Int) == 0) = bb ∧ ((m.length : Int) == (k : Int)) = bb := by
      by_cases hr : rest = []
      · exact ⟨true, by rw [hfacts.2 hr]; rfl, by rw [hr] at hat; simp at hat; simp [hat]⟩
      · have h1 : f ≠ 0 := fun e => hr (hfacts.1 e)
        have h2 : 0 < rest.length := List.length_pos_iff.2 hr
        exact ⟨false, beq_eq_false_iff_ne.2 (by omega), beq_eq_false_iff_ne.2 (by omega)⟩
    have hln : (l.take n).length = n := by simp; omega
    have htl : (l.take n).length ≤ l.length := by omega
    have HALL2 := Lib.hid hAll
    have HJM := Lib.hid hjm
    have HFULL := Lib.hid hfull
    have HNEXT := Lib.hid hnext
    have HMA := Lib.hid hmAll
    have HLN := Lib.hid hln
    have hms : m.length ≤ s.length := by omega
    have HFM := Lib.hid hfm
    clear hAll hjm hfull hnext hmAll hln hfacts hat hm hlenS hrest hka hsl hokm hfm htl
    by_cases hnl : n = l.length
    · have hnB : ((n : Int) == (l.length : Int)) = true := by rw [hnl]; simp
      have hfl := HFULL.out hnl
      have hfB : ((m.length : Int) == (s.length : Int)) = true := by rw [hfl]; simp
      have HNL := Lib.hid hnl
      have HFL := Lib.hid hfl
      clear hnl hfl
      go_enter Try.func7, Try.ntmps7
      go_wp2_with (fail)
      refine (Ret.quiet (Below.refl _ _) (awake_any _)).mono ?_
      rintro e w1 ⟨rfl, hb1⟩
      go_wp2_with (fail)
      refine (Ret.quiet (hb1) (HJ.out _ hb1)).mono ?_
      rintro e w2 ⟨rfl, hb2⟩
      go_wp2_with (fail)
      refine (HALL2.out w2).mono ?_
      rintro e w3 ⟨v3, rfl, h3, hb3⟩
      obtain ⟨A3, c3, rfl, hc3, hm3, hr3⟩ := h3
      rw [HLN.out] at hc3 ⊢
      unfold maxLen at hm3
      go_wp2_with (fail)
      have hB3 := hb2.trans (hb3.mono hb2.size)
      have hrl := (hl.below hB3).take hn
      rw [Nat.mul_one, strs_take, ← HLN.out] at hrl
      have HT := Texts_any A3 A c3 c (l.take n) (l.take n) w3 hr3 (by rw [HLN.out] at hrl ⊢; exact hrl) (by rw [HLN.out]; omega) (by rw [HLN.out]; omega)
      rw [HLN.out] at HT
      refine (Ret.quiet (Below.refl _ _) (HT)).mono ?_
      rintro e w4 ⟨rfl, hb43⟩
      go_wp2_with (fail)
      have hb4 := hB3.trans (hb43.mono hB3.size)
      have HJN := Join_any A3 c3 (l.take n) w4 (hr3.below hb43) (by rw [HLN.out]; omega) (by rw [HFM.out]; omega) HMA.out
      rw [HLN.out, HJM.out] at HJN
      refine (Ret.quiet (hb4) (HJN)).mono ?_
      rintro e w5 ⟨rfl, hb5⟩
      go_wp2_with (fail)
      go_ret
      exact ⟨rfl, hb5⟩
    · have hnl1 : n < l.length := by omega
      have hnB : ((n : Int) == (l.length : Int)) = false := beq_eq_false_iff_ne.2 (by omega)
      obtain ⟨a, rfl, _⟩ := hl.str_at hnl1
      go_enter Try.func7, Try.ntmps7
      go_wp2_with (fail)
      refine (Ret.quiet (Below.refl _ _) (awake_any _)).mono ?_
      rintro e w1 ⟨rfl, hb1⟩
      go_wp2_with (fail)
      refine (Ret.quiet (hb1) (HJ.out _ hb1)).mono ?_
      rintro e w2 ⟨rfl, hb2⟩
      go_wp2_with (fail)
      refine (HALL2.out w2).mono ?_
      rintro e w3 ⟨v3, rfl, h3, hb3⟩
      obtain ⟨A3, c3, rfl, hc3, hm3, hr3⟩ := h3
      rw [HLN.out] at hc3 ⊢
      unfold maxLen at hm3
      go_wp2_with (fail)
      have hB3 := hb2.trans (hb3.mono hb2.size)
      have hrl := (hl.below hB3).take hn
      rw [Nat.mul_one, strs_take, ← HLN.out] at hrl
      have HT := Texts_any A3 (some a) c3 c (l.take n) (l.take n) w3 hr3 (by rw [HLN.out] at hrl ⊢; exact hrl) (by rw [HLN.out]; omega) (by rw [HLN.out]; omega)
      rw [HLN.out] at HT
      refine (Ret.quiet (Below.refl _ _) (HT)).mono ?_
      rintro e w4 ⟨rfl, hb43⟩
      go_wp2_with (fail)
      have hb4 := hB3.trans (hb43.mono hB3.size)
      have HJN := Join_any A3 c3 (l.take n) w4 (hr3.below hb43) (by rw [HLN.out]; omega) (by rw [HFM.out]; omega) HMA.out
      rw [HLN.out, HJM.out] at HJN
      refine (Ret.quiet hb4 HJN).mono ?_
      rintro e w5 ⟨rfl, hb5⟩
      obtain ⟨a', ha', ca⟩ := (hl.below hb5).str_at hnl1
      obtain rfl : a = a' := by injection ha'
      have hnx := HNEXT.out hnl1
      have hpl : (l[n]).length ≤ 1048576 := HOK.out _ (List.getElem_mem hnl1)
      have hrp : (record l[n]).length ≤ 1048584 := by rw [record_length]; omega
      generalize l[n] = p at *
      go_wp2_with (fail)
      refine (Ret.quiet (hb5) (Pack_any p _ hpl)).mono ?_
      rintro e w6 ⟨rfl, hb6⟩
      go_wp2_with (fail)
      go_ret
      refine ⟨?_, hb6⟩
      simp
      omega
  · rw [hjl] at hjoin
    have HJ := Lib.hid hjoin
    clear hjoin hjl
    go_enter Try.func7, Try.ntmps7
    go_wp2_with (fail)
    refine (Ret.quiet (Below.refl _ _) (awake_any _)).mono ?_
    rintro e w1 ⟨rfl, hb1⟩
    go_wp2_with (fail)
    refine (Ret.quiet (hb1) (HJ.out _ hb1)).mono ?_
    rintro e w2 ⟨rfl, hb2⟩
    go_wp2_with (fail)
    go_ret
    exact ⟨rfl, hb2⟩

open Go.ChangeShapes Go.WideShapes Go.ChangeAt in
/-- What the walk gives, for every argument. -/
theorem RecCut_contract (H : Type) (enc : TypeId × Value → H) (W : World) (base : Nat) (args : Array Value) (ds gs : List (DataW H)) (before : List MemPlace)
    (hval : ∀ (j : Nat) t v, Try.f7.params[j]? = some t → args[j]? = some v → Value.okWide Try.prog W .any base t v)
    (hW : DataW.Whole enc Try.prog Try.f7.params.toList Rows.recCutSpec.vars false W args.toList ds gs before) (hk : Rows.uptoSmall H (ds ++ gs) = true) :
    Calls Try.prog 7 args W fun e W' => ∃ v, e = .returned v ∧ Rows.recCutSpec.post enc Try.prog Try.f7 false true false false W args v W' := by
  have hW' := hW
  obtain ⟨p, q, hA0, hV, rfl, hfz, hnd⟩ := hW
  have hA : DataW.TrodAll enc Try.prog W 0 (fun _ => true) true Try.f7.params.toList args.toList ds p := hA0
  rw [Try.params7] at hA hval
  obtain ⟨v0, vs0, d0, ds0, p0, q0, hargs, rfl, rfl, h0, r0⟩ := trodAll_cons hA
  obtain ⟨v1, vs1, d1, ds1, p1, q1, rfl, rfl, rfl, h1, r1⟩ := trodAll_cons r0
  obtain ⟨rfl, rfl, rfl⟩ := trodAll_nil r1
  obtain rfl : args = #[v0, v1] := by cases args; simp_all
  obtain ⟨rfl, rfl⟩ := trodVars_none hV
  obtain ⟨A0, c0, x0, rfl, hc0, hm0, k0, ks0, kd0⟩ := open_texts Try.underlying28 Try.underlying9 (by kernel_rfl) (hval 0 28 v0 rfl rfl) h0
  obtain ⟨x1, rfl, rfl, rfl, k1⟩ := open_int Try.underlying3 (hval 1 3 v1 rfl rfl) h1
  have k1 := bounds_i64 k1
  clear hA0
  have hbulk := bulk_bound hk
  simp only [List.cons_append, List.nil_append, List.append_nil, Rows.uptoBulkAll] at hbulk
  have hwt := weight_le_bulk kd0
  refine (RecCut_any A0 c0 x0 x1 W k0 hc0 hm0 (by omega) (by omega)).mono ?_
  exact fun e W' ⟨he, hb⟩ => ⟨_, he, law_post rfl hW' rfl (by kernel_rfl) Try.underlying4 (by kernel_rfl) laidOut hb⟩

open Go.ChangeShapes Go.WideShapes Go.ChangeAt in
set_option maxRecDepth 100000 in
theorem RecCut_lifted (os : Os) (started : os.Started) (H : Type) (enc : TypeId × Value → H) (F : Stop.Interp) :
    ReturnsInHanded {} Try.checked os 7 .any ((Rows.OpenSpec.upto Rows.recCutSpec).pre6 enc Try.prog Try.f7 Rows.recCutUptoRow.domain false) (((Rows.OpenSpec.upto Rows.recCutSpec).at F).post enc Try.prog Try.f7 false true false false) := by
  refine returnsInHanded_of_cond (C := Try.checked) (s := Rows.OpenSpec.upto Rows.recCutSpec) (k := Rows.uptoSmall) rfl own started (by kernel_rfl) Try.func7
    (OpenSpec.witness (enc := enc) (C := Try.checked) (s := Rows.OpenSpec.upto Rows.recCutSpec) (k := Rows.uptoSmall) rfl false ⟨#[], #[.slice none 0 0, .int .i64 0], []⟩ 8 (by kernel_rfl) (by kernel_rfl) (by kernel_rfl)
      (x := ([.nil, .lit (.int .i64 0)], [], [])) (by kernel_rfl) rfl (by kernel_rfl)) ?_
  intro W base args ds gs before hval hW _ hk _
  exact RecCut_contract H enc W base args ds gs before hval hW hk

theorem RecCut_holds : Rows.RecCutUptoSaid :=
  OpenClaim.holds_of_cond 7 Try.f7 rfl rfl rfl rfl rfl rfl rfl ⟨rfl, rfl, rfl, rfl, rfl⟩ rfl rfl rfl rfl rfl (by kernel_rfl) Try.func7 (by kernel_rfl)
    (of_decide_eq_true (by kernel_rfl)) (by unfold Func.isWrapper; first | (rw [if_pos (by decide +kernel)]; kernel_rfl) | (rw [if_neg (by decide +kernel)]; exact ⟨rfl, rfl⟩))
    (fun os started H enc _ F => RecCut_lifted os started H enc F)

end Go.Proofs.Ytfddhhaecfjepaa
