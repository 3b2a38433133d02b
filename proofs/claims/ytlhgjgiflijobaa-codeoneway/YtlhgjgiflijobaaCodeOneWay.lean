/- hawserlaw03.CodeOneWay: what is read without a fault is written as the very same bytes. -/
import Derived.Test.YtlhgjgiflijobaaPlain03c
import Derived.Test.YtlhgjgiflijobaaOpen3
import Derived.SizedLaws
namespace Go.Proofs.Ytlhgjgiflijobaa
open Go.RowKit Plain

abbrev Call3 := Int × Int × Int
def callV (x : Call3) : List Value := [.int .i64 x.1, .int .i64 x.2.1, .int .i64 x.2.2]

set_option maxRecDepth 100000 in
set_option maxHeartbeats 4000000 in
theorem CodeOneWay_any (A : Option Addr) (c : Nat) (s : List UInt8) (l : List Call3) (w : World) (hl : IsRows w 3 A (l.map callV)) (hll : l.length ≤ 9223372036854775807) (hs : s.length ≤ 140737488351232) :
    Calls Try.prog 5 #[.string ⟨s.toArray⟩, .slice A l.length c] w (Ret w (.bool true)) := by
  go_enter Try.func5, Try.ntmps5
  go_wp2_with (fail)
  refine (Ret.quiet (Below.refl _ _) (awake_any _)).mono ?_
  rintro e w1 ⟨rfl, hb1⟩
  go_wp2_with (fail)
  refine (New_any s _ (by omega)).mono ?_
  rintro _ w2 ⟨rfl, hr2, hb2⟩
  have hz := hb1.size
  have hb := hb1.trans (hb2.mono hz)
  generalize hbr : w1.heap.size + 1 = br at *
  generalize hbb : w1.heap.size = bb at *
  clear hbr hbb hb2 hb1
  go_wp2_with (fail)
  go_loopw [6, 8, 9, 10, 11, 18] (fun t6 _ _ _ _ t18 wr => ∃ (k : Nat) (T R : List UInt8), k ≤ l.length ∧ t18 = .int .i64 k ∧ t6 = .string ⟨T.toArray⟩ ∧ s = T ++ R ∧ Rd br bb (R, 0) wr ∧ Below w.heap.size w wr) (fun _ _ _ _ _ t18 _ => l.length - (intOf t18).toNat)
  case atStart => exact ⟨0, [], s, by omega, rfl, rfl, rfl, hr2, hb⟩
  case round =>
    obtain ⟨k, T, R, hk, rfl, rfl, hTR, hr, hb⟩ := hrel
    have hTl := congrArg List.length hTR
    rw [List.length_append] at hTl
    have HTL := Lib.hid hTl
    have hTl1 : T.length + R.length ≤ s.length := by omega
    clear hTl
    have HTR := Lib.hid hTR
    clear hTR
    by_cases hlt : k < l.length
    · obtain ⟨ad, rfl, hc, hcs⟩ := (hl.below hb).at_ (k := k) (by simpa using hlt)
      rw [List.getElem_map] at hc hcs
      generalize l[k] = x at *
      obtain ⟨x0, x1, x2⟩ := x
      have c0 := hc _ rfl
      have c1 := hcs 0 _ rfl
      have c2 := hcs 1 _ rfl
      clear hc hcs
      have hki : (k : Int) < l.length := by omega
      go_wp2_with (fail)
      have hb0 := hb.alloc hb.size (.cells #[.int .i64 x0, .int .i64 x1, .int .i64 x2] 38)
      have hr0 := hr.below ((Below.refl wr.heap.size wr).alloc (Nat.le_refl _) (.cells #[.int .i64 x0, .int .i64 x1, .int .i64 x2] 38))
      refine (RLeft_any br bb R 0 _ hr0).mono ?_
      rintro _ w3 ⟨rfl, hb3⟩
      have hr3 := hr0.below hb3
      have hbw := hb0.trans (hb3.mono hb0.size)
      have d0 : w3.cell? ⟨wr.heap.size, 0, none⟩ = some (.int .i64 x0) := by rw [hb3.cell (by simp)]; go_simp
      have d1 : w3.cell? ⟨wr.heap.size, 1, none⟩ = some (.int .i64 x1) := by rw [hb3.cell (by simp)]; go_simp
      have d2 : w3.cell? ⟨wr.heap.size, 2, none⟩ = some (.int .i64 x2) := by rw [hb3.cell (by simp)]; go_simp
      clear hb hr hb0 hr0 c0 c1 c2
      have hcases : x0 = 0 ∨ x0 = 1 ∨ x0 = 2 ∨ x0 = 3 ∨ (x0 ≠ 0 ∧ x0 ≠ 1 ∧ x0 ≠ 2 ∧ x0 ≠ 3) := by omega
      rcases hcases with rfl | rfl | rfl | rfl | ⟨n0, n1, n2, n3⟩
      rotate_left 4
      · have e0 : (x0 == 0) = false := by simpa using n0
        have e1 : (x0 == 1) = false := by simpa using n1
        have e2 : (x0 == 2) = false := by simpa using n2
        have e3 : (x0 == 3) = false := by simpa using n3
        clear n0 n1 n2 n3
        go_wp2_with (fail)
        go_roundw
        case rel => exact ⟨k + 1, T, R, by omega, by go_num, rfl, HTR.out, hr3, hbw⟩
        case measure => simp [intOf]; omega
      · have hN := RNum_any br bb R 0 w3 hr3
        have hst := step_num R
        rcases htr : takeR passNum (R, 0) with ⟨v, st'⟩
        rw [htr] at hN hst
        obtain ⟨hst, hv⟩ := hst
        have HS := Lib.hid hst
        clear hst htr
        have hul := numB_length v
        go_wp2_with (fail)
        refine hN.mono ?_
        rintro _ w4 ⟨rfl, hr4, hg4⟩
        have hb4 := below_gb hbw hbw.size hg4 hz
        go_wp2_with (fail)
        refine (Num_any v _ hv).mono ?_
        rintro _ w5 ⟨rfl, hb5⟩
        have hr5 := hr4.below hb5
        have hb5' := hb4.trans (hb5.mono hb4.size)
        have hul' : (numB v).length ≤ 140737488355328 := by omega
        generalize numB v = u at *
        clear hN hb5 hul
        go_wp2_with (fail)
        obtain ⟨r', f⟩ := st'
        rcases HS.out with ⟨hf, hst1⟩ | ⟨hf, hst1, hu⟩
        · simp only at hf hst1
          subst hst1
          have hE := REnd_any br bb r' f _ hr5
          rw [show endR (r', f) = f by simp [endR, hf]] at hE
          have hne : ((f : Int) != 0) = true := by simp; omega
          by_cases h32 : f = 32
          · subst h32
            refine hE.mono ?_
            rintro _ w6 ⟨rfl, hb6⟩
            have hr6 := hr5.below hb6
            have hb6' := hb5'.trans (hb6.mono hb5'.size)
            go_wp2_with (fail)
            refine (RLeft_any br bb r' 32 _ hr6).mono ?_
            rintro _ w7 ⟨rfl, hb7⟩
            have hr7 := hr6.below hb7
            have hb7' := hb6'.trans (hb7.mono hb6'.size)
            go_wp2_with (fail)
            refine (RLeft_any br bb r' 32 _ hr7).mono ?_
            rintro _ w8 ⟨rfl, hb8⟩
            go_wp2_with (fail)
            go_ret
            exact ⟨by simp, hb7'.trans (hb8.mono hb7'.size)⟩
          · have h32' : ((f : Int) != 32) = true := by simp; omega
            refine hE.mono ?_
            rintro _ w6 ⟨rfl, hb6⟩
            have hr6 := hr5.below hb6
            have hb6' := hb5'.trans (hb6.mono hb5'.size)
            go_wp2_with (fail)
            refine (RLeft_any br bb r' f _ hr6).mono ?_
            rintro _ w7 ⟨rfl, hb7⟩
            go_wp2_with (fail)
            go_ret
            exact ⟨by simp, hb6'.trans (hb7.mono hb6'.size)⟩
        · simp only at hf hst1
          subst hf
          have hRl := congrArg List.length hst1
          rw [List.length_append] at hRl
          have hTu : s = (T ++ u) ++ r' := by rw [List.append_assoc, ← hst1]; exact HTR.out
          have htk : s.take (T.length + u.length) = T ++ u := by
            rw [hTu, ← List.length_append, List.take_left' rfl]
          have HTU := Lib.hid hTu
          have HST1 := Lib.hid hst1
          have hneq : ((r'.length : Int) == (R.length : Int)) = false := by simp; omega
          have hTL := HTL.out
          have hsum : ((T.length : Int) + (u.length : Int) + (r'.length : Int) != (s.length : Int)) = false := by simp; omega
          have hwr : wrap64 ((T.length : Int) + (u.length : Int) + (r'.length : Int)) = (s.length : Int) := by unfold wrap64; omega
          have hE := REnd_any br bb r' 0 _ hr5
          have hTl2 : T.length + u.length ≤ s.length := by omega
          clear hst1 hTu hRl hTL
          have he : endR (r', 0) = 0 ∨ endR (r', 0) = 32 := by unfold endR; split <;> simp
          rcases he with he | he
          all_goals
            rw [he] at hE
            clear he
            refine hE.mono ?_
            rintro _ w6 ⟨rfl, hb6⟩
            have hr6 := hr5.below hb6
            have hb6' := hb5'.trans (hb6.mono hb5'.size)
            go_wp2_with (fail)
            refine (RLeft_any br bb r' 0 _ hr6).mono ?_
            rintro _ w7 ⟨rfl, hb7⟩
            have hr7 := hr6.below hb7
            have hb7' := hb6'.trans (hb7.mono hb6'.size)
            go_wp2_with (fail)
            refine (RLeft_any br bb r' 0 _ hr7).mono ?_
            rintro _ w8 ⟨rfl, hb8⟩
            have hr8 := hr7.below hb8
            have hb8' := hb7'.trans (hb8.mono hb7'.size)
            go_wp2_with (fail)
            go_roundw
            case rel => exact ⟨k + 1, T ++ u, r', by omega, by go_num, rfl, HTU.out, hr8, hb8'⟩
            case measure => simp [intOf]; omega
      · have hN := RText_any br bb x1 R 0 w3 hr3
        have hst := step_text x1 R
        generalize (takeR (passText x1) (R, 0)).2 = st' at *
        generalize textR x1 (R, 0) = v at *
        obtain ⟨hst, hv⟩ := hst
        have HS := Lib.hid hst
        clear hst
        have hul := textB_length v
        go_wp2_with (fail)
        refine hN.mono ?_
        rintro _ w4 ⟨rfl, hr4, hg4⟩
        have hb4 := below_gb hbw hbw.size hg4 hz
        go_wp2_with (fail)
        refine (Text_any v _ (by omega)).mono ?_
        rintro _ w5 ⟨rfl, hb5⟩
        have hr5 := hr4.below hb5
        have hb5' := hb4.trans (hb5.mono hb4.size)
        have hul' : (textB v).length ≤ 140737488355328 := by omega
        generalize textB v = u at *
        clear hN hb5 hul
        go_wp2_with (fail)
        obtain ⟨r', f⟩ := st'
        rcases HS.out with ⟨hf, hst1⟩ | ⟨hf, hst1, hu⟩
        · simp only at hf hst1
          subst hst1
          have hE := REnd_any br bb r' f _ hr5
          rw [show endR (r', f) = f by simp [endR, hf]] at hE
          have hne : ((f : Int) != 0) = true := by simp; omega
          by_cases h32 : f = 32
          · subst h32
            refine hE.mono ?_
            rintro _ w6 ⟨rfl, hb6⟩
            have hr6 := hr5.below hb6
            have hb6' := hb5'.trans (hb6.mono hb5'.size)
            go_wp2_with (fail)
            refine (RLeft_any br bb r' 32 _ hr6).mono ?_
            rintro _ w7 ⟨rfl, hb7⟩
            have hr7 := hr6.below hb7
            have hb7' := hb6'.trans (hb7.mono hb6'.size)
            go_wp2_with (fail)
            refine (RLeft_any br bb r' 32 _ hr7).mono ?_
            rintro _ w8 ⟨rfl, hb8⟩
            go_wp2_with (fail)
            go_ret
            exact ⟨by simp, hb7'.trans (hb8.mono hb7'.size)⟩
          · have h32' : ((f : Int) != 32) = true := by simp; omega
            refine hE.mono ?_
            rintro _ w6 ⟨rfl, hb6⟩
            have hr6 := hr5.below hb6
            have hb6' := hb5'.trans (hb6.mono hb5'.size)
            go_wp2_with (fail)
            refine (RLeft_any br bb r' f _ hr6).mono ?_
            rintro _ w7 ⟨rfl, hb7⟩
            go_wp2_with (fail)
            go_ret
            exact ⟨by simp, hb6'.trans (hb7.mono hb6'.size)⟩
        · simp only at hf hst1
          subst hf
          have hRl := congrArg List.length hst1
          rw [List.length_append] at hRl
          have hTu : s = (T ++ u) ++ r' := by rw [List.append_assoc, ← hst1]; exact HTR.out
          have htk : s.take (T.length + u.length) = T ++ u := by
            rw [hTu, ← List.length_append, List.take_left' rfl]
          have HTU := Lib.hid hTu
          have HST1 := Lib.hid hst1
          have hneq : ((r'.length : Int) == (R.length : Int)) = false := by simp; omega
          have hTL := HTL.out
          have hsum : ((T.length : Int) + (u.length : Int) + (r'.length : Int) != (s.length : Int)) = false := by simp; omega
          have hwr : wrap64 ((T.length : Int) + (u.length : Int) + (r'.length : Int)) = (s.length : Int) := by unfold wrap64; omega
          have hE := REnd_any br bb r' 0 _ hr5
          have hTl2 : T.length + u.length ≤ s.length := by omega
          clear hst1 hTu hRl hTL
          have he : endR (r', 0) = 0 ∨ endR (r', 0) = 32 := by unfold endR; split <;> simp
          rcases he with he | he
          all_goals
            rw [he] at hE
            clear he
            refine hE.mono ?_
            rintro _ w6 ⟨rfl, hb6⟩
            have hr6 := hr5.below hb6
            have hb6' := hb5'.trans (hb6.mono hb5'.size)
            go_wp2_with (fail)
            refine (RLeft_any br bb r' 0 _ hr6).mono ?_
            rintro _ w7 ⟨rfl, hb7⟩
            have hr7 := hr6.below hb7
            have hb7' := hb6'.trans (hb7.mono hb6'.size)
            go_wp2_with (fail)
            refine (RLeft_any br bb r' 0 _ hr7).mono ?_
            rintro _ w8 ⟨rfl, hb8⟩
            have hr8 := hr7.below hb8
            have hb8' := hb7'.trans (hb8.mono hb7'.size)
            go_wp2_with (fail)
            go_roundw
            case rel => exact ⟨k + 1, T ++ u, r', by omega, by go_num, rfl, HTU.out, hr8, hb8'⟩
            case measure => simp [intOf]; omega
      · have hN := RFlag_any br bb R 0 w3 hr3
        have hst := step_flag R
        rcases htr : flagR (R, 0) with ⟨v, st'⟩
        rw [htr] at hN hst
        have HS := Lib.hid hst
        clear hst htr
        have hul := (by cases v <;> exact Nat.le_refl _ : (flagB v).length ≤ 1)
        go_wp2_with (fail)
        refine hN.mono ?_
        rintro _ w4 ⟨rfl, hr4, hg4⟩
        have hb4 := below_gb hbw hbw.size hg4 hz
        go_wp2_with (fail)
        refine (Flag_any v _).mono ?_
        rintro _ w5 ⟨rfl, hb5⟩
        have hr5 := hr4.below hb5
        have hb5' := hb4.trans (hb5.mono hb4.size)
        have hul' : (flagB v).length ≤ 140737488355328 := by omega
        generalize flagB v = u at *
        clear hN hb5 hul
        go_wp2_with (fail)
        obtain ⟨r', f⟩ := st'
        rcases HS.out with ⟨hf, hst1⟩ | ⟨hf, hst1, hu⟩
        · simp only at hf hst1
          subst hst1
          have hE := REnd_any br bb r' f _ hr5
          rw [show endR (r', f) = f by simp [endR, hf]] at hE
          have hne : ((f : Int) != 0) = true := by simp; omega
          by_cases h32 : f = 32
          · subst h32
            refine hE.mono ?_
            rintro _ w6 ⟨rfl, hb6⟩
            have hr6 := hr5.below hb6
            have hb6' := hb5'.trans (hb6.mono hb5'.size)
            go_wp2_with (fail)
            refine (RLeft_any br bb r' 32 _ hr6).mono ?_
            rintro _ w7 ⟨rfl, hb7⟩
            have hr7 := hr6.below hb7
            have hb7' := hb6'.trans (hb7.mono hb6'.size)
            go_wp2_with (fail)
            refine (RLeft_any br bb r' 32 _ hr7).mono ?_
            rintro _ w8 ⟨rfl, hb8⟩
            go_wp2_with (fail)
            go_ret
            exact ⟨by simp, hb7'.trans (hb8.mono hb7'.size)⟩
          · have h32' : ((f : Int) != 32) = true := by simp; omega
            refine hE.mono ?_
            rintro _ w6 ⟨rfl, hb6⟩
            have hr6 := hr5.below hb6
            have hb6' := hb5'.trans (hb6.mono hb5'.size)
            go_wp2_with (fail)
            refine (RLeft_any br bb r' f _ hr6).mono ?_
            rintro _ w7 ⟨rfl, hb7⟩
            go_wp2_with (fail)
            go_ret
            exact ⟨by simp, hb6'.trans (hb7.mono hb6'.size)⟩
        · simp only at hf hst1
          subst hf
          have hRl := congrArg List.length hst1
          rw [List.length_append] at hRl
          have hTu : s = (T ++ u) ++ r' := by rw [List.append_assoc, ← hst1]; exact HTR.out
          have htk : s.take (T.length + u.length) = T ++ u := by
            rw [hTu, ← List.length_append, List.take_left' rfl]
          have HTU := Lib.hid hTu
          have HST1 := Lib.hid hst1
          have hneq : ((r'.length : Int) == (R.length : Int)) = false := by simp; omega
          have hTL := HTL.out
          have hsum : ((T.length : Int) + (u.length : Int) + (r'.length : Int) != (s.length : Int)) = false := by simp; omega
          have hwr : wrap64 ((T.length : Int) + (u.length : Int) + (r'.length : Int)) = (s.length : Int) := by unfold wrap64; omega
          have hE := REnd_any br bb r' 0 _ hr5
          have hTl2 : T.length + u.length ≤ s.length := by omega
          clear hst1 hTu hRl hTL
          have he : endR (r', 0) = 0 ∨ endR (r', 0) = 32 := by unfold endR; split <;> simp
          rcases he with he | he
          all_goals
            rw [he] at hE
            clear he
            refine hE.mono ?_
            rintro _ w6 ⟨rfl, hb6⟩
            have hr6 := hr5.below hb6
            have hb6' := hb5'.trans (hb6.mono hb5'.size)
            go_wp2_with (fail)
            refine (RLeft_any br bb r' 0 _ hr6).mono ?_
            rintro _ w7 ⟨rfl, hb7⟩
            have hr7 := hr6.below hb7
            have hb7' := hb6'.trans (hb7.mono hb6'.size)
            go_wp2_with (fail)
            refine (RLeft_any br bb r' 0 _ hr7).mono ?_
            rintro _ w8 ⟨rfl, hb8⟩
            have hr8 := hr7.below hb8
            have hb8' := hb7'.trans (hb8.mono hb7'.size)
            go_wp2_with (fail)
            go_roundw
            case rel => exact ⟨k + 1, T ++ u, r', by omega, by go_num, rfl, HTU.out, hr8, hb8'⟩
            case measure => simp [intOf]; omega
      · have hN := RCount_any br bb x1 x2 R 0 w3 hr3
        have hst := step_count x1 x2 R
        rcases htr : takeR (passCount x1 x2) (R, 0) with ⟨v, st'⟩
        rw [htr] at hN hst
        obtain ⟨hst, hv⟩ := hst
        have HS := Lib.hid hst
        clear hst htr
        have hul := numB_length v
        go_wp2_with (fail)
        refine hN.mono ?_
        rintro _ w4 ⟨rfl, hr4, hg4⟩
        have hb4 := below_gb hbw hbw.size hg4 hz
        go_wp2_with (fail)
        refine (Num_any v _ hv).mono ?_
        rintro _ w5 ⟨rfl, hb5⟩
        have hr5 := hr4.below hb5
        have hb5' := hb4.trans (hb5.mono hb4.size)
        have hul' : (numB v).length ≤ 140737488355328 := by omega
        generalize numB v = u at *
        clear hN hb5 hul
        go_wp2_with (fail)
        obtain ⟨r', f⟩ := st'
        rcases HS.out with ⟨hf, hst1⟩ | ⟨hf, hst1, hu⟩
        · simp only at hf hst1
          subst hst1
          have hE := REnd_any br bb r' f _ hr5
          rw [show endR (r', f) = f by simp [endR, hf]] at hE
          have hne : ((f : Int) != 0) = true := by simp; omega
          by_cases h32 : f = 32
          · subst h32
            refine hE.mono ?_
            rintro _ w6 ⟨rfl, hb6⟩
            have hr6 := hr5.below hb6
            have hb6' := hb5'.trans (hb6.mono hb5'.size)
            go_wp2_with (fail)
            refine (RLeft_any br bb r' 32 _ hr6).mono ?_
            rintro _ w7 ⟨rfl, hb7⟩
            have hr7 := hr6.below hb7
            have hb7' := hb6'.trans (hb7.mono hb6'.size)
            go_wp2_with (fail)
            refine (RLeft_any br bb r' 32 _ hr7).mono ?_
            rintro _ w8 ⟨rfl, hb8⟩
            go_wp2_with (fail)
            go_ret
            exact ⟨by simp, hb7'.trans (hb8.mono hb7'.size)⟩
          · have h32' : ((f : Int) != 32) = true := by simp; omega
            refine hE.mono ?_
            rintro _ w6 ⟨rfl, hb6⟩
            have hr6 := hr5.below hb6
            have hb6' := hb5'.trans (hb6.mono hb5'.size)
            go_wp2_with (fail)
            refine (RLeft_any br bb r' f _ hr6).mono ?_
            rintro _ w7 ⟨rfl, hb7⟩
            go_wp2_with (fail)
            go_ret
            exact ⟨by simp, hb6'.trans (hb7.mono hb6'.size)⟩
        · simp only at hf hst1
          subst hf
          have hRl := congrArg List.length hst1
          rw [List.length_append] at hRl
          have hTu : s = (T ++ u) ++ r' := by rw [List.append_assoc, ← hst1]; exact HTR.out
          have htk : s.take (T.length + u.length) = T ++ u := by
            rw [hTu, ← List.length_append, List.take_left' rfl]
          have HTU := Lib.hid hTu
          have HST1 := Lib.hid hst1
          have hneq : ((r'.length : Int) == (R.length : Int)) = false := by simp; omega
          have hTL := HTL.out
          have hsum : ((T.length : Int) + (u.length : Int) + (r'.length : Int) != (s.length : Int)) = false := by simp; omega
          have hwr : wrap64 ((T.length : Int) + (u.length : Int) + (r'.length : Int)) = (s.length : Int) := by unfold wrap64; omega
          have hE := REnd_any br bb r' 0 _ hr5
          have hTl2 : T.length + u.length ≤ s.length := by omega
          clear hst1 hTu hRl hTL
          have he : endR (r', 0) = 0 ∨ endR (r', 0) = 32 := by unfold endR; split <;> simp
          rcases he with he | he
          all_goals
            rw [he] at hE
            clear he
            refine hE.mono ?_
            rintro _ w6 ⟨rfl, hb6⟩
            have hr6 := hr5.below hb6
            have hb6' := hb5'.trans (hb6.mono hb5'.size)
            go_wp2_with (fail)
            refine (RLeft_any br bb r' 0 _ hr6).mono ?_
            rintro _ w7 ⟨rfl, hb7⟩
            have hr7 := hr6.below hb7
            have hb7' := hb6'.trans (hb7.mono hb6'.size)
            go_wp2_with (fail)
            refine (RLeft_any br bb r' 0 _ hr7).mono ?_
            rintro _ w8 ⟨rfl, hb8⟩
            have hr8 := hr7.below hb8
            have hb8' := hb7'.trans (hb8.mono hb7'.size)
            go_wp2_with (fail)
            go_roundw
            case rel => exact ⟨k + 1, T ++ u, r', by omega, by go_num, rfl, HTU.out, hr8, hb8'⟩
            case measure => simp [intOf]; omega
    · obtain rfl : k = l.length := by omega
      go_wp2_with (fail)
      go_ret
      exact ⟨rfl, hb⟩

section
open Go.ChangeShapes Go.WideShapes Go.ChangeAt Go.Deep
variable {H : Type} {enc : TypeId × Value → H} {w : World} {base : Nat} {held : Bool}
theorem open_calls {r : Reach} {b0 : Nat} {v : Value} {d : DataW H} {ps : List MemPlace} (hval : Value.okWide Try.prog w r b0 36 v) (hd : DataW.Trod enc Try.prog w base (fun _ => true) held 36 v d ps) :
    ∃ A c, ∃ l : List Call3, v = .slice A l.length c ∧ l.length ≤ c ∧ c ≤ maxLen ∧ IsRows w 3 A (l.map callV) ∧ l.length ≤ Rows.uptoBulk d := by
  obtain ⟨A, c, l, V, h1, h2, h3, h4, h5, h6, h7⟩ := open_rows (α := Call3) (fun vs x => vs = callV x) (fun _ => 1) Try.underlying36 Try.underlying38 (by kernel_rfl) (by kernel_rfl) (fun vs ys n hv hy hf => by
    obtain ⟨v0, y0, a0, _, t0⟩ := hf 0 _ rfl
    obtain ⟨v1, y1, a1, _, t1⟩ := hf 1 _ rfl
    obtain ⟨v2, y2, a2, _, t2⟩ := hf 2 _ rfl
    obtain ⟨m0, e0, _⟩ := DataW.trod_int Try.underlying3 t0
    obtain ⟨m1, e1, _⟩ := DataW.trod_int Try.underlying3 t1
    obtain ⟨m2, e2, _⟩ := DataW.trod_int Try.underlying3 t2
    simp only [List.cons.injEq, and_true] at e0 e1 e2
    subst e0 e1 e2
    refine ⟨(m0, m1, m2), ?_, bulk_one _⟩
    match vs, hv with
    | [b0, b1, b2], _ =>
      simp at a0 a1 a2
      rw [a0, a1, a2]; rfl) hval hd
  have hV : V = l.map callV := List.ext_getElem (by rw [h4, List.length_map]) (fun k h h' => by rw [h6 k (by omega) h]; simp)
  subst hV
  exact ⟨A, c, l, h1, h2, h3, h5, Nat.le_trans (sum_ge l _ (by simp)) h7⟩
end

open Go.ChangeShapes Go.WideShapes Go.ChangeAt in
/-- What the walk gives, for every argument. -/
theorem CodeOneWay_contract (H : Type) (enc : TypeId × Value → H) (W : World) (base : Nat) (args : Array Value) (ds gs : List (DataW H)) (before : List MemPlace)
    (hval : ∀ (j : Nat) t v, Try.f5.params[j]? = some t → args[j]? = some v → Value.okWide Try.prog W .any base t v)
    (hW : DataW.Whole enc Try.prog Try.f5.params.toList Rows.codeOneWaySpec.vars false W args.toList ds gs before) (hsz : (DataW.weightsEach Try.prog (Try.f5.params.toList ++ Rows.codeOneWaySpec.plain.varTypes Try.prog) (ds ++ gs)).all (· ≤ reachBytes) = true) :
    Calls Try.prog 5 args W fun e W' => ∃ v, e = .returned v ∧ Rows.codeOneWaySpec.post enc Try.prog Try.f5 false true false false W args v W' := by
  have hW' := hW
  obtain ⟨p, q, hA0, hV, rfl, hfz, hnd⟩ := hW
  have hA : DataW.TrodAll enc Try.prog W 0 (fun _ => true) true Try.f5.params.toList args.toList ds p := hA0
  rw [Try.params5] at hA hval hsz
  obtain ⟨v0, vs0, d0, ds0, p0, q0, hargs, rfl, rfl, h0, r0⟩ := trodAll_cons hA
  obtain ⟨v1, vs1, d1, ds1, p1, q1, rfl, rfl, rfl, h1, r1⟩ := trodAll_cons r0
  obtain ⟨rfl, rfl, rfl⟩ := trodAll_nil r1
  obtain rfl : args = #[v0, v1] := by cases args; simp_all
  obtain ⟨rfl, rfl⟩ := trodVars_none hV
  obtain ⟨x0, rfl, rfl, rfl, k0⟩ := ChangeMaps.open_string Try.underlying9 (hval 0 9 v0 rfl rfl) h0
  have k0 : x0.data.toList.length ≤ 9223372036854775807 := by unfold maxLen at k0; simpa using k0
  obtain ⟨A1, c1, x1, rfl, hc1, hm1, ks1, kd1⟩ := open_calls (hval 1 36 v1 rfl rfl) h1
  clear hA0
  have hs0 := sized_string hsz (j := 0) rfl rfl
  refine (CodeOneWay_any A1 c1 x0.data.toList x1 W ks1 (by unfold maxLen at hm1; omega) (by simpa [reachBytes] using hs0)).mono ?_
  exact fun e W' ⟨he, hb⟩ => ⟨_, he, law_post rfl hW' rfl (by kernel_rfl) Try.underlying4 (by kernel_rfl) laidOut hb⟩

open Go.ChangeShapes Go.WideShapes Go.ChangeAt in
set_option maxRecDepth 100000 in
theorem CodeOneWay_lifted (os : Os) (started : os.Started) (H : Type) (enc : TypeId × Value → H) :
    ReturnsInHanded {} Try.checked os 5 .any (Rows.codeOneWaySpec.pre6 enc Try.prog Try.f5 Rows.codeOneWayRow.domain false) (Rows.codeOneWaySpec.post enc Try.prog Try.f5 false true false false) := by
  refine returnsInHanded_of_change_sized (C := Try.checked) own started (by kernel_rfl) Try.func5
    (ChangeSpec.witness6 (enc := enc) (C := Try.checked) false ⟨#[], #[.string ⟨#[]⟩, .slice none 0 0], []⟩ 8 (by kernel_rfl) (by kernel_rfl) (by kernel_rfl) (by kernel_rfl)) ?_
  intro W base args ds gs before hval hW _ hsz _
  exact CodeOneWay_contract H enc W base args ds gs before hval hW hsz

theorem CodeOneWay_holds : Rows.CodeOneWaySaid :=
  OpenClaim.holds_of_wide 5 Try.f5 rfl rfl rfl rfl rfl rfl rfl ⟨rfl, rfl, rfl, rfl, rfl⟩ rfl rfl rfl rfl rfl (by kernel_rfl) Try.func5 (by kernel_rfl)
    (of_decide_eq_true (by kernel_rfl)) (by unfold Func.isWrapper; first | (rw [if_pos (by decide +kernel)]; kernel_rfl) | (rw [if_neg (by decide +kernel)]; exact ⟨rfl, rfl⟩))
    (fun os started H enc _ => CodeOneWay_lifted os started H enc)
end Go.Proofs.Ytlhgjgiflijobaa
