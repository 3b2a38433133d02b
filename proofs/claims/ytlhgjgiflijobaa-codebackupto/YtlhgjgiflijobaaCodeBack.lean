/- hawserlaw03.CodeBack, where what it is handed is small: what is written is read back, one behind the other. Condition: the bound of the second form. -/
import Derived.Test.YtlhgjgiflijobaaPlain03b
import Derived.Test.YtlhgjgiflijobaaOpen2
namespace Go.Proofs.Ytlhgjgiflijobaa
open Go.RowKit Plain

set_option maxHeartbeats 4000000 in
theorem CodeBack_any (A A2 A3 : Option Addr) (c c2 c3 : Nat) (l : List Int) (ts : List (List UInt8)) (fs : List Bool) (w : World) (hl : Reads w 1 A l.length (ints l)) (ht : Reads w 1 A2 ts.length (strs ts)) (hf : Reads w 1 A3 fs.length (bools fs))
    (hb : ∀ n ∈ l, -9223372036854775808 ≤ n ∧ n ≤ 9223372036854775807) (hbulk : l.length + wt ts + fs.length ≤ 1048576) :
    Calls Try.prog 4 #[.slice A l.length c, .slice A2 ts.length c2, .slice A3 fs.length c3] w (Ret w (.bool true)) := by
  have HB := Lib.hid hb
  have hnl := numsB_le l
  have htl := textsB_le ts
  have hfl := flagsB_le fs
  have htn : ts.length ≤ wt ts := weight_length ts
  clear hb
  go_enter Try.func4, Try.ntmps4
  go_wp2_with (fail)
  refine (Ret.quiet (Below.refl _ _) (awake_any _)).mono ?_
  rintro e w1 ⟨rfl, hb1⟩
  go_wp2_with (fail)
  go_loopw [7, 9, 25] (fun t7 _ t25 wr => ∃ k : Nat, k ≤ l.length ∧ t25 = .int .i64 k ∧ t7 = .string ⟨(numsB (l.take k)).toArray⟩ ∧ Below w.heap.size w wr) (fun _ _ t25 _ => l.length - (intOf t25).toNat)
  case atStart => exact ⟨0, by omega, rfl, rfl, hb1⟩
  case round =>
    obtain ⟨k, hk, rfl, rfl, hb⟩ := hrel
    by_cases hlt : k < l.length
    · obtain ⟨a, rfl, ca⟩ := (hl.below hb).int_at hlt
      have hsn := numsB_snoc hlt
      have hnt := numsB_le (l.take k)
      have hbn := HB.out _ (List.getElem_mem hlt)
      generalize l[k] = n at *
      have hki : (k : Int) < l.length := by omega
      have htk : (l.take k).length ≤ k := List.length_take_le _ _
      generalize numsB (l.take k) = acc at *
      by_cases hn : 0 ≤ n
      · obtain ⟨m, rfl⟩ := Int.eq_ofNat_of_zero_le hn
        rw [if_pos hn, Int.toNat_natCast] at hsn
        have hm9 := numB_length m
        have HS := Lib.hid hsn
        clear hsn
        go_wp2_with (fail)
        refine (Ret.quiet (hb) (Num_any m _ (by omega))).mono ?_
        rintro e w2 ⟨rfl, hb2⟩
        go_wp2_with (fail)
        go_roundw
        case rel => exact ⟨k + 1, by omega, by go_num, by rw [HS.out], hb2⟩
        case measure => simp [intOf]; omega
      · rw [if_neg hn, List.append_nil] at hsn
        have HS := Lib.hid hsn
        clear hsn
        go_wp2_with (fail)
        refine (Ret.quiet hb (Num_neg n _ (by omega))).mono ?_
        rintro _ w2 ⟨rfl, hb2⟩
        have hea : (ByteArray.mk acc.toArray ++ ByteArray.mk #[]) = ByteArray.mk acc.toArray := by apply ByteArray.ext; simp
        go_wp2_with (fail)
        go_roundw
        case rel => exact ⟨k + 1, by omega, by go_num, by rw [HS.out], hb2⟩
        case measure => simp [intOf]; omega
    · obtain rfl : k = l.length := by omega
      rw [List.take_length]
      clear hlt hb1
      go_wp2_with (fail)
      go_loopw [7, 11, 36] (fun t7 _ t36 wr => ∃ k : Nat, k ≤ ts.length ∧ t36 = .int .i64 k ∧ t7 = .string ⟨(numsB l ++ textsB (ts.take k)).toArray⟩ ∧ Below w.heap.size w wr) (fun _ _ t36 _ => ts.length - (intOf t36).toNat)
      case atStart => exact ⟨0, by omega, rfl, by simp [textsB], hb⟩
      case round =>
        obtain ⟨k, hk, rfl, rfl, hb⟩ := hrel
        by_cases hlt : k < ts.length
        · obtain ⟨a, rfl, ca⟩ := (ht.below hb).str_at hlt
          have hsn := textsB_snoc hlt
          have hnt := textsB_le (ts.take k)
          have hwk := wt_take ts k
          have hwm : ts[k].length + 1 ≤ wt ts := weight_mem (List.getElem_mem hlt)
          generalize ts[k] = t at *
          have hki : (k : Int) < ts.length := by omega
          generalize textsB (ts.take k) = acc at *
          have hm9 := textB_length t
          have HS := Lib.hid hsn
          clear hsn
          go_wp2_with (fail)
          refine (Ret.quiet (hb) (Text_any t _ (by omega))).mono ?_
          rintro e w2 ⟨rfl, hb2⟩
          go_wp2_with (fail)
          go_roundw
          case rel => exact ⟨k + 1, by omega, by go_num, by rw [HS.out], hb2⟩
          case measure => simp [intOf]; omega
        · obtain rfl : k = ts.length := by omega
          rw [List.take_length]
          clear hlt
          go_wp2_with (fail)
          go_loopw [7, 13, 47] (fun t7 _ t47 wr => ∃ k : Nat, k ≤ fs.length ∧ t47 = .int .i64 k ∧ t7 = .string ⟨(numsB l ++ (textsB ts ++ flagsB (fs.take k))).toArray⟩ ∧ Below w.heap.size w wr) (fun _ _ t47 _ => fs.length - (intOf t47).toNat)
          case atStart => exact ⟨0, by omega, rfl, by simp [flagsB], hb⟩
          case round =>
            obtain ⟨k, hk, rfl, rfl, hb⟩ := hrel
            by_cases hlt : k < fs.length
            · obtain ⟨a, rfl, ca⟩ := (hf.below hb).bool_at hlt
              have hsn := flagsB_snoc hlt
              have hnt := flagsB_le (fs.take k)
              have hkt : (fs.take k).length ≤ k := List.length_take_le _ _
              generalize fs[k] = t at *
              have hki : (k : Int) < fs.length := by omega
              generalize flagsB (fs.take k) = acc at *
              have hm9 : (flagB t).length = 1 := by cases t <;> rfl
              have hm9' : (flagB t).length ≤ 1 := by omega
              have HS := Lib.hid hsn
              clear hsn hm9
              go_wp2_with (fail)
              refine (Ret.quiet (hb) (Flag_any t _)).mono ?_
              rintro e w2 ⟨rfl, hb2⟩
              go_wp2_with (fail)
              go_roundw
              case rel => exact ⟨k + 1, by omega, by go_num, by rw [HS.out], hb2⟩
              case measure => simp [intOf]; omega
            · obtain rfl : k = fs.length := by omega
              rw [List.take_length]
              clear hlt
              have hsl : (numsB l ++ (textsB ts ++ flagsB fs)).length ≤ 9437184 := by rw [List.length_append, List.length_append]; omega
              obtain ⟨s, hs⟩ : ∃ s, s = numsB l ++ (textsB ts ++ flagsB fs) := ⟨_, rfl⟩
              have hst : s = numsB (l.drop 0) ++ (textsB ts ++ flagsB fs) := by rw [List.drop_zero]; exact hs
              have HS := Lib.hid hst
              rw [← hs] at hsl ⊢
              clear hs hst hnl htl hfl
              go_wp2_with (fail)
              refine (New_any _ _ (by omega)).mono ?_
              rintro _ w2 ⟨rfl, hr2, hb2⟩
              have hz := hb.size
              have hbb := hb.trans (hb2.mono hz)
              generalize hbr : wr.heap.size + 1 = br at *
              generalize hbb' : wr.heap.size = bb at *
              clear hbr hbb' hb2
              go_wp2_with (fail)
              go_loopw [16, 60] (fun _ t60 wr => ∃ (k : Nat), k ≤ l.length ∧ t60 = .int .i64 k ∧ Rd br bb (numsB (l.drop k) ++ (textsB ts ++ flagsB fs), 0) wr ∧ Below w.heap.size w wr) (fun _ t60 _ => l.length - (intOf t60).toNat)
              case atStart => exact ⟨0, by omega, rfl, by rw [← HS.out]; exact hr2, hbb⟩
              case round =>
                obtain ⟨k, hk, rfl, hr, hb⟩ := hrel
                by_cases hlt : k < l.length
                · obtain ⟨a, rfl, ca⟩ := (hl.below hb).int_at hlt
                  have hsn := numsB_drop hlt
                  have hbn := HB.out _ (List.getElem_mem hlt)
                  generalize l[k] = n at *
                  have hki : (k : Int) < l.length := by omega
                  by_cases hn : 0 ≤ n
                  · obtain ⟨m, rfl⟩ := Int.eq_ofNat_of_zero_le hn
                    rw [hsn, if_pos hn, Int.toNat_natCast, List.append_assoc] at hr
                    have hN := RNum_any br bb _ 0 wr hr
                    rw [back_num (by omega)] at hN
                    clear hsn
                    go_wp2_with (fail)
                    refine hN.mono ?_
                    rintro _ w3 ⟨rfl, hr3, hg3⟩
                    have hb3 := below_gb hb hb.size hg3 hz
                    go_wp2_with (fail)
                    go_roundw
                    case rel => exact ⟨k + 1, by omega, by go_num, hr3, hb3⟩
                    case measure => simp [intOf]; omega
                  · rw [hsn, if_neg hn, List.nil_append] at hr
                    clear hsn
                    go_wp2_with (fail)
                    go_roundw
                    case rel => exact ⟨k + 1, by omega, by go_num, hr, hb⟩
                    case measure => simp [intOf]; omega
                · obtain rfl : k = l.length := by omega
                  have hr' : Rd br bb (textsB (ts.drop 0) ++ flagsB fs, 0) wr := by
                    rw [List.drop_length] at hr
                    simpa [numsB] using hr
                  clear hr hlt
                  go_wp2_with (fail)
                  go_loopw [18, 75] (fun _ t75 wr => ∃ (k : Nat), k ≤ ts.length ∧ t75 = .int .i64 k ∧ Rd br bb (textsB (ts.drop k) ++ flagsB fs, 0) wr ∧ Below w.heap.size w wr) (fun _ t75 _ => ts.length - (intOf t75).toNat)
                  case atStart => exact ⟨0, by omega, rfl, hr', hb⟩
                  case round =>
                    obtain ⟨k, hk, rfl, hr, hb⟩ := hrel
                    by_cases hlt : k < ts.length
                    · obtain ⟨a, rfl, ca⟩ := (ht.below hb).str_at hlt
                      have hsn := textsB_drop hlt
                      have hwm : ts[k].length + 1 ≤ wt ts := weight_mem (List.getElem_mem hlt)
                      generalize ts[k] = t at *
                      have hki : (k : Int) < ts.length := by omega
                      rw [hsn, List.append_assoc] at hr
                      have hN := RText_any br bb t.length _ 0 wr hr
                      rw [back_text (by omega), back_textR (by omega)] at hN
                      clear hsn
                      go_wp2_with (fail)
                      refine hN.mono ?_
                      rintro _ w3 ⟨rfl, hr3, hg3⟩
                      have hb3 := below_gb hb hb.size hg3 hz
                      go_wp2_with (fail)
                      go_roundw
                      case rel => exact ⟨k + 1, by omega, by go_num, hr3, hb3⟩
                      case measure => simp [intOf]; omega
                    · obtain rfl : k = ts.length := by omega
                      have hr' : Rd br bb (flagsB (fs.drop 0), 0) wr := by
                        rw [List.drop_length] at hr
                        simpa [textsB] using hr
                      clear hr hlt
                      go_wp2_with (fail)
                      go_loopw [20, 88] (fun _ t88 wr => ∃ (k : Nat), k ≤ fs.length ∧ t88 = .int .i64 k ∧ Rd br bb (flagsB (fs.drop k), 0) wr ∧ Below w.heap.size w wr) (fun _ t88 _ => fs.length - (intOf t88).toNat)
                      case atStart => exact ⟨0, by omega, rfl, hr', hb⟩
                      case round =>
                        obtain ⟨k, hk, rfl, hr, hb⟩ := hrel
                        by_cases hlt : k < fs.length
                        · obtain ⟨a, rfl, ca⟩ := (hf.below hb).bool_at hlt
                          have hsn := flagsB_drop hlt
                          generalize fs[k] = t at *
                          have hki : (k : Int) < fs.length := by omega
                          rw [hsn] at hr
                          have hN := RFlag_any br bb _ 0 wr hr
                          rw [back_flag] at hN
                          clear hsn
                          go_wp2_with (fail)
                          refine hN.mono ?_
                          rintro _ w3 ⟨rfl, hr3, hg3⟩
                          have hb3 := below_gb hb hb.size hg3 hz
                          go_wp2_with (fail)
                          go_roundw
                          case rel => exact ⟨k + 1, by omega, by go_num, hr3, hb3⟩
                          case measure => simp [intOf]; omega
                        · obtain rfl : k = fs.length := by omega
                          have hr' : Rd br bb ([], 0) wr := by
                            rw [List.drop_length] at hr
                            simpa [flagsB] using hr
                          have hE := REnd_any br bb [] 0 wr hr'
                          rw [show endR ([], 0) = 0 from rfl] at hE
                          have hL := fun W h => RLeft_any br bb [] 0 W h
                          clear hr hlt
                          go_wp2_with (fail)
                          refine hE.mono ?_
                          rintro _ w4 ⟨rfl, hb4⟩
                          go_wp2_with (fail)
                          refine (hL _ (hr'.below hb4)).mono ?_
                          rintro _ w5 ⟨rfl, hb5⟩
                          go_wp2_with (fail)
                          go_ret
                          have hbz := hb.trans (hb4.mono hb.size)
                          exact ⟨rfl, hbz.trans (hb5.mono hbz.size)⟩

open Go.ChangeShapes Go.WideShapes Go.ChangeAt in
/-- What the walk gives, for every argument. -/
theorem CodeBack_contract (H : Type) (enc : TypeId × Value → H) (W : World) (base : Nat) (args : Array Value) (ds gs : List (DataW H)) (before : List MemPlace)
    (hval : ∀ (j : Nat) t v, Try.f4.params[j]? = some t → args[j]? = some v → Value.okWide Try.prog W .any base t v)
    (hW : DataW.Whole enc Try.prog Try.f4.params.toList Rows.codeBackSpec.vars false W args.toList ds gs before) (hk : Rows.uptoSmall H (ds ++ gs) = true) :
    Calls Try.prog 4 args W fun e W' => ∃ v, e = .returned v ∧ Rows.codeBackSpec.post enc Try.prog Try.f4 false true false false W args v W' := by
  have hW' := hW
  obtain ⟨p, q, hA0, hV, rfl, hfz, hnd⟩ := hW
  have hA : DataW.TrodAll enc Try.prog W 0 (fun _ => true) true Try.f4.params.toList args.toList ds p := hA0
  rw [Try.params4] at hA hval
  obtain ⟨v0, vs0, d0, ds0, p0, q0, hargs, rfl, rfl, h0, r0⟩ := trodAll_cons hA
  obtain ⟨v1, vs1, d1, ds1, p1, q1, rfl, rfl, rfl, h1, r1⟩ := trodAll_cons r0
  obtain ⟨v2, vs2, d2, ds2, p2, q2, rfl, rfl, rfl, h2, r2⟩ := trodAll_cons r1
  obtain ⟨rfl, rfl, rfl⟩ := trodAll_nil r2
  obtain rfl : args = #[v0, v1, v2] := by cases args; simp_all
  obtain ⟨rfl, rfl⟩ := trodVars_none hV
  obtain ⟨A0, c0, x0, rfl, hc0, hm0, k0, ks0, kd0⟩ := open_intsR Try.underlying22 Try.underlying3 (by kernel_rfl) (hval 0 22 v0 rfl rfl) h0
  obtain ⟨A1, c1, x1, rfl, hc1, hm1, k1, ks1, kd1⟩ := open_texts Try.underlying23 Try.underlying9 (by kernel_rfl) (hval 1 23 v1 rfl rfl) h1
  obtain ⟨A2, c2, x2, rfl, hc2, hm2, k2, kd2⟩ := open_boolsR Try.underlying33 Try.underlying4 (by kernel_rfl) (hval 2 33 v2 rfl rfl) h2
  clear hA0
  have hbulk := bulk_bound hk
  simp only [List.cons_append, List.nil_append, List.append_nil, Rows.uptoBulkAll] at hbulk
  have hwb := weight_le_bulk kd1
  refine (CodeBack_any A0 A1 A2 c0 c1 c2 x0 x1 x2 W k0 k1 k2 ks0 (by have := kd0; have := kd2; unfold wt; unfold weight at hwb; omega)).mono ?_
  exact fun e W' ⟨he, hb⟩ => ⟨_, he, law_post rfl hW' rfl (by kernel_rfl) Try.underlying4 (by kernel_rfl) laidOut hb⟩

open Go.ChangeShapes Go.WideShapes Go.ChangeAt in
set_option maxRecDepth 100000 in
theorem CodeBack_lifted (os : Os) (started : os.Started) (H : Type) (enc : TypeId × Value → H) (F : Stop.Interp) :
    ReturnsInHanded {} Try.checked os 4 .any ((Rows.OpenSpec.upto Rows.codeBackSpec).pre6 enc Try.prog Try.f4 Rows.codeBackUptoRow.domain false) (((Rows.OpenSpec.upto Rows.codeBackSpec).at F).post enc Try.prog Try.f4 false true false false) := by
  refine returnsInHanded_of_cond (C := Try.checked) (s := Rows.OpenSpec.upto Rows.codeBackSpec) (k := Rows.uptoSmall) rfl own started (by kernel_rfl) Try.func4
    (OpenSpec.witness (enc := enc) (C := Try.checked) (s := Rows.OpenSpec.upto Rows.codeBackSpec) (k := Rows.uptoSmall) rfl false ⟨#[], #[.slice none 0 0, .slice none 0 0, .slice none 0 0], []⟩ 8 (by kernel_rfl) (by kernel_rfl) (by kernel_rfl)
      (x := ([.nil, .nil, .nil], [], [])) (by kernel_rfl) rfl (by kernel_rfl)) ?_
  intro W base args ds gs before hval hW _ hk _
  exact CodeBack_contract H enc W base args ds gs before hval hW hk

theorem CodeBack_holds : Rows.CodeBackUptoSaid :=
  OpenClaim.holds_of_cond 4 Try.f4 rfl rfl rfl rfl rfl rfl rfl ⟨rfl, rfl, rfl, rfl, rfl⟩ rfl rfl rfl rfl rfl (by kernel_rfl) Try.func4 (by kernel_rfl)
    (of_decide_eq_true (by kernel_rfl)) (by unfold Func.isWrapper; first | (rw [if_pos (by decide +kernel)]; kernel_rfl) | (rw [if_neg (by decide +kernel)]; exact ⟨rfl, rfl⟩))
    (fun os started H enc _ F => CodeBack_lifted os started H enc F)
end Go.Proofs.Ytlhgjgiflijobaa
