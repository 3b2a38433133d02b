/- hawserlaw03.CodeShort, where what it is handed is small: of what is written, cut short anywhere, the same calls can't read all without a fault. Condition: the bound of the second form. -/
import Derived.Test.YtlhgjgiflijobaaPlain03b
import Derived.Test.YtlhgjgiflijobaaOpen2

namespace Go.Proofs.Ytlhgjgiflijobaa
open Go.RowKit Plain

set_option maxHeartbeats 2000000 in
theorem CodeShort_any (A A2 : Option Addr) (c c2 : Nat) (l : List Int) (ts : List (List UInt8)) (cut : Int) (w : World) (hl : Reads w 1 A l.length (ints l)) (ht : Reads w 1 A2 ts.length (strs ts))
    (hb : ∀ n ∈ l, -9223372036854775808 ≤ n ∧ n ≤ 9223372036854775807) (hbulk : l.length + wt ts ≤ 1048576) (hcut : cut ≤ 9223372036854775807) :
    Calls Try.prog 3 #[.slice A l.length c, .slice A2 ts.length c2, .int .i64 cut] w (Ret w (.bool true)) := by
  have HB := Lib.hid hb
  have hnl := numsB_le l
  have htl := textsB_le ts
  have htn : ts.length ≤ wt ts := weight_length ts
  clear hb
  go_enter Try.func3, Try.ntmps3
  go_wp2_with (fail)
  refine (Ret.quiet (Below.refl _ _) (awake_any _)).mono ?_
  rintro e w1 ⟨rfl, hb1⟩
  go_wp2_with (fail)
  go_loopw [7, 9, 22] (fun t7 _ t22 wr => ∃ k : Nat, k ≤ l.length ∧ t22 = .int .i64 k ∧ t7 = .string ⟨(numsB (l.take k)).toArray⟩ ∧ Below w.heap.size w wr) (fun _ _ t22 _ => l.length - (intOf t22).toNat)
  case atStart => exact ⟨0, by omega, rfl, rfl, hb1⟩
  case round =>
    obtain ⟨k, hk, rfl, rfl, hb⟩ := hrel
    by_cases hlt : k < l.length
    · obtain ⟨a, rfl, ca⟩ := (hl.below hb).int_at hlt
      have hsn := numsB_snoc hlt
      have hnt := numsB_le (l.take k)
      have hbn := HB.out _ (List.getElem_mem hlt)
      generalize l[k] = n at *
      have hki : (k : Int) < l.length := by omega
      have htk : (l.take k).length ≤ k := List.length_take_le _ _
      generalize numsB (l.take k) = acc at *
      by_cases hn : 0 ≤ n
      · obtain ⟨m, rfl⟩ := Int.eq_ofNat_of_zero_le hn
        rw [if_pos hn, Int.toNat_natCast] at hsn
        have hm9 := numB_length m
        have HS := Lib.hid hsn
        clear hsn
        go_wp2_with (fail)
        refine (Ret.quiet (hb) (Num_any m _ (by omega))).mono ?_
        rintro e w2 ⟨rfl, hb2⟩
        go_wp2_with (fail)
        go_roundw
        case rel => exact ⟨k + 1, by omega, by go_num, by rw [HS.out], hb2⟩
        case measure => simp [intOf]; omega
      · rw [if_neg hn, List.append_nil] at hsn
        have HS := Lib.hid hsn
        clear hsn
        go_wp2_with (fail)
        go_roundw
        case rel => exact ⟨k + 1, by omega, by go_num, by rw [HS.out], hb⟩
        case measure => simp [intOf]; omega
    · obtain rfl : k = l.length := by omega
      rw [List.take_length]
      clear hlt hb1
      go_wp2_with (fail)
      go_loopw [7, 11, 35] (fun t7 _ t35 wr => ∃ k : Nat, k ≤ ts.length ∧ t35 = .int .i64 k ∧ t7 = .string ⟨(numsB l ++ textsB (ts.take k)).toArray⟩ ∧ Below w.heap.size w wr) (fun _ _ t35 _ => ts.length - (intOf t35).toNat)
      case atStart => exact ⟨0, by omega, rfl, by simp [textsB], hb⟩
      case round =>
        obtain ⟨k, hk, rfl, rfl, hb⟩ := hrel
        by_cases hlt : k < ts.length
        · obtain ⟨a, rfl, ca⟩ := (ht.below hb).str_at hlt
          have hsn := textsB_snoc hlt
          have hnt := textsB_le (ts.take k)
          have hwk := wt_take ts k
          have hwm : ts[k].length + 1 ≤ wt ts := weight_mem (List.getElem_mem hlt)
          generalize ts[k] = t at *
          have hki : (k : Int) < ts.length := by omega
          generalize textsB (ts.take k) = acc at *
          have hm9 := textB_length t
          have HS := Lib.hid hsn
          clear hsn
          go_wp2_with (fail)
          refine (Ret.quiet (hb) (Text_any t _ (by omega))).mono ?_
          rintro e w2 ⟨rfl, hb2⟩
          go_wp2_with (fail)
          go_roundw
          case rel => exact ⟨k + 1, by omega, by go_num, by rw [HS.out], hb2⟩
          case measure => simp [intOf]; omega
        · obtain rfl : k = ts.length := by omega
          rw [List.take_length]
          clear hlt
          have hsl : (numsB l ++ textsB ts).length ≤ 9437184 := by rw [List.length_append]; omega
          obtain ⟨s, hs⟩ : ∃ s, s = numsB l ++ textsB ts := ⟨_, rfl⟩
          have HS := Lib.hid hs
          rw [← hs] at hsl ⊢
          clear hs hnl htl
          by_cases h0 : cut < 0
          · go_wp2_with (fail)
            go_ret
            exact ⟨rfl, hb⟩
          obtain ⟨cut, rfl⟩ := Int.eq_ofNat_of_zero_le (show 0 ≤ cut by omega)
          by_cases h1 : s.length ≤ cut
          · have h1' : (s.length : Int) ≤ (cut : Int) := by omega
            go_wp2_with (fail)
            go_ret
            exact ⟨rfl, hb⟩
          have h1' : (cut : Int) < (s.length : Int) := by omega
          have h1d : decide (s.length ≤ cut) = false := by simpa using h1
          have hst : Cut (numsB (l.drop 0) ++ textsB ts) (s.take cut, 0) := .inr ⟨rfl, cut, by rw [List.drop_zero, ← HS.out]; omega, by rw [List.drop_zero, ← HS.out]⟩
          have HST := Lib.hid hst
          clear hst
          go_wp2_with (fail)
          refine (New_any _ _ (by rw [List.length_take]; omega)).mono ?_
          rintro _ w2 ⟨rfl, hr2, hb2⟩
          have hz := hb.size
          have hbb := hb.trans (hb2.mono hz)
          generalize hbr : wr.heap.size + 1 = br at *
          generalize hbb' : wr.heap.size = bb at *
          clear hbr hbb' hb2
          go_wp2_with (fail)
          clear h1 h1' h1d
          go_loopw [14, 58] (fun _ t58 wr => ∃ (k : Nat) (st : St), k ≤ l.length ∧ t58 = .int .i64 k ∧ Cut (numsB (l.drop k) ++ textsB ts) st ∧ Rd br bb st wr ∧ Below w.heap.size w wr) (fun _ t58 _ => l.length - (intOf t58).toNat)
          case atStart => exact ⟨0, _, by omega, rfl, HST.out, hr2, hbb⟩
          case round =>
            obtain ⟨k, st, hk, rfl, hst, hr, hb⟩ := hrel
            have HST := Lib.hid hst
            clear hst
            by_cases hlt : k < l.length
            · obtain ⟨a, rfl, ca⟩ := (hl.below hb).int_at hlt
              have hsn := numsB_drop hlt
              have hbn := HB.out _ (List.getElem_mem hlt)
              generalize l[k] = n at *
              have hki : (k : Int) < l.length := by omega
              by_cases hn : 0 ≤ n
              · obtain ⟨m, rfl⟩ := Int.eq_ofNat_of_zero_le hn
                have hm63 : m < 9223372036854775808 := by omega
                have hcn := HST.out
                rw [hsn, if_pos hn, Int.toNat_natCast, List.append_assoc] at hcn
                replace hcn := cut_num hm63 hcn
                have hN := RNum_any br bb st.1 st.2 wr hr
                have hE := fun W h => REnd_any br bb (takeR passNum st).2.1 (takeR passNum st).2.2 W h
                rw [show (st.1, st.2) = st from rfl] at hN
                simp only [show ((takeR passNum st).2.1, (takeR passNum st).2.2) = (takeR passNum st).2 from rfl] at hE
                clear hsn
                rcases htr : takeR passNum st with ⟨v, st'⟩
                rw [htr] at hN hE hcn
                have HC := Lib.hid hcn.1
                have HV := Lib.hid hcn.2
                clear htr hcn
                by_cases hv : v = m
                · subst hv
                  go_wp2_with (fail)
                  refine hN.mono ?_
                  rintro _ w3 ⟨rfl, hr3, hg3⟩
                  have hb3 := below_gb hb hb.size hg3 hz
                  go_wp2_with (fail)
                  go_roundw
                  case rel => exact ⟨k + 1, st', by omega, by go_num, HC.out, hr3, hb3⟩
                  case measure => simp [intOf]; omega
                · have he : endR st' = 30 := HV.out.resolve_left hv
                  rw [he] at hE
                  have hv' : ((v : Int) != (m : Int)) = true := by simp; omega
                  have hv2 : (v != m) = true := by simpa using hv
                  clear he hv
                  go_wp2_with (fail)
                  refine hN.mono ?_
                  rintro _ w3 ⟨rfl, hr3, hg3⟩
                  have hb3 := below_gb hb hb.size hg3 hz
                  go_wp2_with (fail)
                  refine (hE _ hr3).mono ?_
                  rintro _ w4 ⟨rfl, hb4⟩
                  go_wp2_with (fail)
                  go_roundw
                  case rel => exact ⟨k + 1, st', by omega, by go_num, HC.out, hr3.below hb4, hb3.trans (hb4.mono hb3.size)⟩
                  case measure => simp [intOf]; omega
              · rw [if_neg hn, List.nil_append] at hsn
                have HS := Lib.hid hsn
                clear hsn
                go_wp2_with (fail)
                go_roundw
                case rel => exact ⟨k + 1, st, by omega, by go_num, by rw [← HS.out]; exact HST.out, hr, hb⟩
                case measure => simp [intOf]; omega
            · obtain rfl : k = l.length := by omega
              have hst : Cut (textsB (ts.drop 0)) st := by
                have := HST.out
                rw [List.drop_length] at this
                simpa [numsB] using this
              have HST := Lib.hid hst
              clear hst hlt
              go_wp2_with (fail)
              go_loopw [16, 17, 78] (fun _ _ t78 wr => ∃ (k : Nat) (st : St), k ≤ ts.length ∧ t78 = .int .i64 k ∧ Cut (textsB (ts.drop k)) st ∧ Rd br bb st wr ∧ Below w.heap.size w wr) (fun _ _ t78 _ => ts.length - (intOf t78).toNat)
              case atStart => exact ⟨0, _, by omega, rfl, HST.out, hr, hb⟩
              case round =>
                obtain ⟨k, st, hk, rfl, hst, hr, hb⟩ := hrel
                by_cases hlt : k < ts.length
                · obtain ⟨a, rfl, ca⟩ := (ht.below hb).str_at hlt
                  have hsn := textsB_drop hlt
                  have hwm : ts[k].length + 1 ≤ wt ts := weight_mem (List.getElem_mem hlt)
                  generalize ts[k] = t at *
                  have hki : (k : Int) < ts.length := by omega
                  rw [hsn] at hst
                  have hcn := cut_text (by omega) hst
                  clear hsn hst
                  have hN := fun W h => RText_any br bb t.length st.1 st.2 W h
                  have hE := fun W h => REnd_any br bb (takeR (passText t.length) st).2.1 (takeR (passText t.length) st).2.2 W h
                  rw [show (st.1, st.2) = st from rfl] at hN
                  simp only [show ((takeR (passText t.length) st).2.1, (takeR (passText t.length) st).2.2) = (takeR (passText t.length) st).2 from rfl] at hE
                  generalize (takeR (passText t.length) st).2 = st' at *
                  generalize textR t.length st = u at *
                  have HC := Lib.hid hcn.1
                  have HV := Lib.hid hcn.2
                  clear hcn
                  by_cases hv : u = t
                  · subst hv
                    go_wp2_with (fail)
                    refine (hN _ hr).mono ?_
                    rintro _ w3 ⟨rfl, hr3, hg3⟩
                    have hb3 := below_gb hb hb.size hg3 hz
                    go_wp2_with (fail)
                    go_roundw
                    case rel => exact ⟨k + 1, st', by omega, by go_num, HC.out, hr3, hb3⟩
                    case measure => simp [intOf]; omega
                  · have he : endR st' = 30 := HV.out.resolve_left hv
                    rw [he] at hE
                    have hv2 : (!u == t) = true := by simpa using hv
                    clear he hv
                    go_wp2_with (fail)
                    refine (hN _ hr).mono ?_
                    rintro _ w3 ⟨rfl, hr3, hg3⟩
                    have hb3 := below_gb hb hb.size hg3 hz
                    go_wp2_with (fail)
                    refine (hE _ hr3).mono ?_
                    rintro _ w4 ⟨rfl, hb4⟩
                    go_wp2_with (fail)
                    go_roundw
                    case rel => exact ⟨k + 1, st', by omega, by go_num, HC.out, hr3.below hb4, hb3.trans (hb4.mono hb3.size)⟩
                    case measure => simp [intOf]; omega
                · obtain rfl : k = ts.length := by omega
                  have he : endR st = 30 := cut_end (by simpa [textsB] using hst)
                  have hE := fun W h => REnd_any br bb st.1 st.2 W h
                  rw [show (st.1, st.2) = st from rfl, he] at hE
                  clear hst he hlt
                  go_wp2_with (fail)
                  refine (hE _ hr).mono ?_
                  rintro _ w4 ⟨rfl, hb4⟩
                  go_wp2_with (fail)
                  go_ret
                  exact ⟨rfl, hb.trans (hb4.mono hb.size)⟩

open Go.ChangeShapes Go.WideShapes Go.ChangeAt in
/-- What the walk gives, for every argument. -/
theorem CodeShort_contract (H : Type) (enc : TypeId × Value → H) (W : World) (base : Nat) (args : Array Value) (ds gs : List (DataW H)) (before : List MemPlace)
    (hval : ∀ (j : Nat) t v, Try.f3.params[j]? = some t → args[j]? = some v → Value.okWide Try.prog W .any base t v)
    (hW : DataW.Whole enc Try.prog Try.f3.params.toList Rows.codeShortSpec.vars false W args.toList ds gs before) (hk : Rows.uptoSmall H (ds ++ gs) = true) :
    Calls Try.prog 3 args W fun e W' => ∃ v, e = .returned v ∧ Rows.codeShortSpec.post enc Try.prog Try.f3 false true false false W args v W' := by
  have hW' := hW
  obtain ⟨p, q, hA0, hV, rfl, hfz, hnd⟩ := hW
  have hA : DataW.TrodAll enc Try.prog W 0 (fun _ => true) true Try.f3.params.toList args.toList ds p := hA0
  rw [Try.params3] at hA hval
  obtain ⟨v0, vs0, d0, ds0, p0, q0, hargs, rfl, rfl, h0, r0⟩ := trodAll_cons hA
  obtain ⟨v1, vs1, d1, ds1, p1, q1, rfl, rfl, rfl, h1, r1⟩ := trodAll_cons r0
  obtain ⟨v2, vs2, d2, ds2, p2, q2, rfl, rfl, rfl, h2, r2⟩ := trodAll_cons r1
  obtain ⟨rfl, rfl, rfl⟩ := trodAll_nil r2
  obtain rfl : args = #[v0, v1, v2] := by cases args; simp_all
  obtain ⟨rfl, rfl⟩ := trodVars_none hV
  obtain ⟨A0, c0, x0, rfl, hc0, hm0, k0, ks0, kd0⟩ := open_intsR Try.underlying22 Try.underlying3 (by kernel_rfl) (hval 0 22 v0 rfl rfl) h0
  obtain ⟨A1, c1, x1, rfl, hc1, hm1, k1, ks1, kd1⟩ := open_texts Try.underlying23 Try.underlying9 (by kernel_rfl) (hval 1 23 v1 rfl rfl) h1
  obtain ⟨x2, rfl, rfl, rfl, k2⟩ := open_int Try.underlying3 (hval 2 3 v2 rfl rfl) h2
  have k2 := bounds_i64 k2
  clear hA0
  have hbulk := bulk_bound hk
  simp only [List.cons_append, List.nil_append, List.append_nil, Rows.uptoBulkAll] at hbulk
  simp only [Rows.uptoBulk] at hbulk
  have hwb := weight_le_bulk kd1
  refine (CodeShort_any A0 A1 c0 c1 x0 x1 x2 W k0 k1 ks0 (by have := kd0; unfold wt; unfold weight at hwb; omega) (by omega)).mono ?_
  exact fun e W' ⟨he, hb⟩ => ⟨_, he, law_post rfl hW' rfl (by kernel_rfl) Try.underlying4 (by kernel_rfl) laidOut hb⟩

open Go.ChangeShapes Go.WideShapes Go.ChangeAt in
set_option maxRecDepth 100000 in
theorem CodeShort_lifted (os : Os) (started : os.Started) (H : Type) (enc : TypeId × Value → H) (F : Stop.Interp) :
    ReturnsInHanded {} Try.checked os 3 .any ((Rows.OpenSpec.upto Rows.codeShortSpec).pre6 enc Try.prog Try.f3 Rows.codeShortUptoRow.domain false) (((Rows.OpenSpec.upto Rows.codeShortSpec).at F).post enc Try.prog Try.f3 false true false false) := by
  refine returnsInHanded_of_cond (C := Try.checked) (s := Rows.OpenSpec.upto Rows.codeShortSpec) (k := Rows.uptoSmall) rfl own started (by kernel_rfl) Try.func3
    (OpenSpec.witness (enc := enc) (C := Try.checked) (s := Rows.OpenSpec.upto Rows.codeShortSpec) (k := Rows.uptoSmall) rfl false ⟨#[], #[.slice none 0 0, .slice none 0 0, .int .i64 0], []⟩ 8 (by kernel_rfl) (by kernel_rfl) (by kernel_rfl)
      (x := ([.nil, .nil, .lit (.int .i64 0)], [], [])) (by kernel_rfl) rfl (by kernel_rfl)) ?_
  intro W base args ds gs before hval hW _ hk _
  exact CodeShort_contract H enc W base args ds gs before hval hW hk

theorem CodeShort_holds : Rows.CodeShortUptoSaid :=
  OpenClaim.holds_of_cond 3 Try.f3 rfl rfl rfl rfl rfl rfl rfl ⟨rfl, rfl, rfl, rfl, rfl⟩ rfl rfl rfl rfl rfl (by kernel_rfl) Try.func3 (by kernel_rfl)
    (of_decide_eq_true (by kernel_rfl)) (by unfold Func.isWrapper; first | (rw [if_pos (by decide +kernel)]; kernel_rfl) | (rw [if_neg (by decide +kernel)]; exact ⟨rfl, rfl⟩))
    (fun os started H enc _ F => CodeShort_lifted os started H enc F)
end Go.Proofs.Ytlhgjgiflijobaa
