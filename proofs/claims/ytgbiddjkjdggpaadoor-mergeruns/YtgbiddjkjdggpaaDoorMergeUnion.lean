/- hawserlaw17.MergeUnion: short texts. -/
import Derived.Test.YtgbiddjkjdggpaaDoorUnion
import Derived.Laws.OwnMore
namespace Go.Proofs.YtgbiddjkjdggpaaDoor
open Go.RowKit Plain

theorem Run_union (o a b : List UInt8) (m : Int) (w : World) (ha : a.length ≤ 65536) (hb : b.length ≤ 65536) (hm : w.cell? ⟨0, 0, none⟩ = some (.int .i64 m)) :
    Calls Tryd.prog 8 #[.string ⟨#[117, 110, 105, 111, 110]⟩, .string ⟨o.toArray⟩, .string ⟨a.toArray⟩, .string ⟨b.toArray⟩] w (RunOut w (finM (unionM a b, true))) := by
  have hg := union_any a b m w ha hb hm
  clear hm ha hb
  generalize unionM a b = l at *
  have HG := Lib.hid hg
  clear hg
  by_cases h : 65536 < l.length
  · have hf : finM (l, true) = ([], 32) := by unfold finM; simp [h]
    rw [hf]
    clear hf
    go_enter Tryd.func8, Tryd.ntmps8
    go_wp2_with (fail)
    refine HG.out.mono ?_
    rintro e w1 ⟨rfl, hw1⟩
    go_wp2_with (fail)
    go_ret2
    exact ⟨rfl, hw1⟩
  · have hf : finM (l, true) = (l, 0) := by unfold finM; simp [h]
    rw [hf]
    clear hf
    go_enter Tryd.func8, Tryd.ntmps8
    go_wp2_with (fail)
    refine HG.out.mono ?_
    rintro e w1 ⟨rfl, hw1⟩
    go_wp2_with (fail)
    go_ret2
    exact ⟨rfl, hw1⟩

theorem has_any (A : Option Addr) (c : Nat) (X : List (List UInt8)) (s : List UInt8) (w : World) (hr : Reads w 1 A X.length (strs X)) (hl : X.length ≤ 4294967296) :
    Calls Tryd.prog 15 #[.slice A X.length c, .string ⟨s.toArray⟩] w (Ret w (.bool (hasL X s))) := by
  go_enter Tryd.func15, Tryd.ntmps15
  go_wp2_with (fail)
  go_loopw [9] (fun t9 W => ∃ k : Nat, k ≤ X.length ∧ t9 = .int .i64 k ∧ Hid (Below w.heap.size w W) ∧ Hid (hasL (X.take k) s = false)) (fun t9 _ => X.length - (intOf t9).toNat)
  case atStart => exact ⟨0, by omega, rfl, Lib.hid (Below.refl _ _), Lib.hid (by rw [List.take_zero, hasL_nil])⟩
  case round =>
    obtain ⟨k, hk, rfl, HB, HH⟩ := hrel
    have hbel := HB.out
    by_cases hlt : k < X.length
    · obtain ⟨ad, rfl, cS⟩ := (hr.below hbel).str_at hlt
      have ht := hasL_take X s k hlt
      rw [HH.out, Bool.false_or] at ht
      have hmem := List.getElem_mem hlt
      generalize X[k] = q at *
      have HT := Lib.hid ht
      have HMEM := Lib.hid hmem
      have i0 : (0 : Int) ≤ k := by omega
      have i1 : (k : Int) < X.length := by omega
      clear ht hbel hmem
      cases hq : q == s with
      | true =>
        go_wp2_with (fail)
        go_ret
        have hx : hasL X s = true := by rw [hasL_iff]; rw [beq_iff_eq] at hq; rw [← hq]; exact HMEM.out
        exact ⟨by rw [hx]; rfl, HB.out⟩
      | false =>
        rw [hq] at HT
        go_wp2_with (fail)
        go_roundw
        case rel => exact ⟨k + 1, by omega, by go_num, HB, HT⟩
        case measure => simp [intOf]; omega
    · obtain rfl : k = X.length := by omega
      have hh := HH.out
      rw [List.take_of_length_le (Nat.le_refl _)] at hh
      have HX := Lib.hid hh
      clear hh HH hbel
      go_wp2_with (fail)
      go_ret
      exact ⟨by rw [HX.out]; rfl, HB.out⟩

set_option maxHeartbeats 4000000 in
theorem MergeUnion_main (a b : List UInt8) (m : Int) (w : World) (ha : a.length ≤ 1000) (hb : b.length ≤ 1000) (hm : w.cell? ⟨0, 0, none⟩ = some (.int .i64 m)) :
    Calls Tryd.prog 5 #[.string ⟨a.toArray⟩, .string ⟨b.toArray⟩] w (Ret w (.bool true)) := by
  obtain ⟨i0, hi, hz0, hz1, hz2⟩ := info_parts info_string
  have hmlt := World.block_lt_of_cell? _ _ hm
  have HM := Lib.hid hm
  have HAW := Lib.hid (awake_any m _ hm)
  clear hm
  have d1 : decide ((1000 : Int) < a.length) = false := by simp; omega
  have d2 : decide ((1000 : Int) < b.length) = false := by simp; omega
  have hla := linesL_length a
  have hlb := linesL_length b
  have hum : (unionM a b).length ≤ 2 * a.length + 2 * b.length + 2 := unionM_le a b
  have hfin : finM (unionM a b, true) = (unionM a b, 0) := by unfold finM; rw [if_neg (by simp), if_neg (by simp; omega)]
  have hlz := linesL_length (unionM a b)
  have hfz := linesL_flat (unionM a b)
  have hzu := linesL_unionM a b
  have HMU := Lib.hid (mem_unionL (linesL a) (linesL b))
  have HME := Lib.hid (mem_ends (unionL (linesL a) (linesL b)))
  have HOE := Lib.hid (of_ends (unionL (linesL a) (linesL b)))
  have hfa := linesL_flat a
  have hfb := linesL_flat b
  have HRU := Lib.hid (fun W h => Run_union [] a b m W (by omega) (by omega) h)
  rw [hfin] at HRU
  have HLA := Lib.hid (fun W h => Lines_at a m W (by omega) h)
  have HLB := Lib.hid (fun W h => Lines_at b m W (by omega) h)
  have HLZ := Lib.hid (fun W h => Lines_at (unionM a b) m W (by omega) h)
  rw [← hzu] at HME HOE
  generalize linesL a = X at *
  generalize linesL b = Y at *
  generalize linesL (unionM a b) = Z at *
  generalize unionM a b = res at *
  clear hzu hfin
  generalize unionL X Y = U at *
  have HFA := Lib.hid hfa
  have HFB := Lib.hid hfb
  have HFZ := Lib.hid hfz
  clear hfa hfb hfz
  go_enter Tryd.func5, Tryd.ntmps5
  go_wp2_with (fail)
  refine HAW.out.mono ?_
  rintro e w1 ⟨rfl, hw1⟩
  have hm1 := (hw1.cell (p := ⟨0, 0, none⟩) hmlt).trans HM.out
  go_wp2_with (fail)
  refine (HRU.out w1 hm1).mono ?_
  rintro e w2 ⟨rfl, hw2⟩
  have hB2 := hw1.trans (hw2.mono hw1.size)
  have hm2 := (hB2.cell (p := ⟨0, 0, none⟩) hmlt).trans HM.out
  clear hw1 hw2 hm1
  go_wp2_with (fail)
  refine (HLA.out w2 hm2).mono ?_
  rintro e w3 ⟨ca, rfl, hca, hma, hra, hw3, hsz3⟩
  have hB3 := hB2.trans (hw3.mono hB2.size)
  have hm3 := (hB3.cell (p := ⟨0, 0, none⟩) hmlt).trans HM.out
  clear hw3 hB2 hm2
  generalize w2.heap.size = xb at *
  go_wp2_with (fail)
  refine (HLB.out w3 hm3).mono ?_
  rintro e w4 ⟨cb, rfl, hcb, hmb, hrb, hw4, hsz4⟩
  have hB4 := hB3.trans (hw4.mono hB3.size)
  have hra4 := hra.below hw4
  have hm4 := (hB4.cell (p := ⟨0, 0, none⟩) hmlt).trans HM.out
  clear hw4 hB3 hm3 hra
  generalize w3.heap.size = yb at *
  go_wp2_with (fail)
  refine (HLZ.out w4 hm4).mono ?_
  rintro e w5 ⟨cc, rfl, hcc, hmc, hrc, hw5, hsz5⟩
  have hB5 := hB4.trans (hw5.mono hB4.size)
  have hra5 := hra4.below hw5
  have hrb5 := hrb.below hw5
  clear hw5 hB4 hm4 hra4 hrb
  generalize w4.heap.size = zb at *
  have hx6 := hra5.below ((Below.refl w5.heap.size w5).alloc (Nat.le_refl _) (.cells #[] 9))
  go_wp2_with (at_builtin; refine wpList_append_own _ rfl _ _ 32 rfl w5.heap.size 9 i0 _ 1 16 Tryd.underlying32 hi hz0 hz1 hz2 rfl (by decide) _ _ _ rfl (World.ownsRow_lit w5 #[] 0 (Nat.le_refl _) (by unfold maxLen; omega) rfl) ⟨xb, 0, none⟩ X.length ca (strs X) rfl (by rw [strs_length]; omega) (fun j u hu => by obtain ⟨ad, e, hc⟩ := hx6.2 (by have h := (List.getElem?_eq_some_iff.1 hu).1; rw [strs_length] at h; omega); injection e with e; subst e; exact hc j u hu) (strs_oneCell X) ?c3 ?c4 ?c5 ?_)
  case c3 => unfold maxLen; omega
  case c4 => omega
  case c5 => simp
  intro v6 w6 hown6 hg6 _
  have hB6 : Below w5.heap.size w5 w6 := ((Below.refl _ _).alloc (Nat.le_refl _) _).grown hg6 (by simp) (fun k hk => by cases hk; exact Nat.le_refl _)
  have hy6 := hrb5.below hB6
  clear hg6 hx6
  go_wp2_with (at_builtin; refine wpList_append_own _ rfl _ _ 32 rfl w5.heap.size 9 i0 _ 1 16 Tryd.underlying32 hi hz0 hz1 hz2 rfl (by decide) _ _ _ rfl hown6 ⟨yb, 0, none⟩ Y.length cb (strs Y) rfl (by rw [strs_length]; omega) (fun j u hu => by obtain ⟨ad, e, hc⟩ := hy6.2 (by have h := (List.getElem?_eq_some_iff.1 hu).1; rw [strs_length] at h; omega); injection e with e; subst e; exact hc j u hu) (strs_oneCell Y) ?c3 ?c4 ?c5 ?_)
  case c3 => unfold maxLen; omega
  case c4 => omega
  case c5 => exact hB6.size
  intro v7 w7 hown7 hg7 _
  have hB7 : Below w5.heap.size w5 w7 := hB6.grown hg7 hB6.size (fun k hk => (hown6.lt k hk).1)
  have hs7 := hB5.size
  have hs57 := hB7.size
  have hB := hB5.trans (hB7.mono hB5.size)
  have hra7 := hra5.below hB7
  have hrb7 := hrb5.below hB7
  have hrc7 := hrc.below hB7
  rw [← strs_append, ← List.length_append] at hown7
  obtain ⟨D, cd, rfl, hcd, hmd, hrd7, _⟩ := of_own0 hown7
  have hflat : (X ++ Y).flatten.length ≤ 2000 := by rw [List.flatten_append, HFA.out, HFB.out, List.length_append]; omega
  have hxyl : (X ++ Y).length ≤ 4096 := by rw [List.length_append]; omega
  have HXY := Lib.hid (fun s => List.mem_append (a := s) (s := X) (t := Y))
  clear hg7 hown6 hown7 hB6 hy6 hra5 hrb5 hrc hB5 hB7
  generalize X ++ Y = XY at *
  have HZ := Lib.hid (fun s W (h : Below w7.heap.size w7 W) => has_any (some ⟨zb, 0, none⟩) cc Z s W (hrc7.below h) (by omega))
  have HX := Lib.hid (fun s W (h : Below w7.heap.size w7 W) => has_any (some ⟨xb, 0, none⟩) ca X s W (hra7.below h) (by omega))
  have HY := Lib.hid (fun s W (h : Below w7.heap.size w7 W) => has_any (some ⟨yb, 0, none⟩) cb Y s W (hrb7.below h) (by omega))
  go_wp2_with (fail)
  go_loopw [42] (fun t42 W => ∃ k : Nat, k ≤ XY.length ∧ t42 = .int .i64 k ∧ Hid (Below w7.heap.size w7 W)) (fun t42 _ => XY.length - (intOf t42).toNat)
  case atStart => exact ⟨0, by omega, rfl, Lib.hid (Below.refl _ _)⟩
  case round =>
    obtain ⟨k, hk, rfl, HB⟩ := hrel
    have hbel := HB.out
    have i0' : (0 : Int) ≤ k := by omega
    by_cases hlt : k < XY.length
    · obtain ⟨ad, rfl, cS⟩ := (hrd7.below hbel).str_at hlt
      have hsl := flat_get XY k hlt
      have hmem : XY[k] ∈ Z ∨ XY[k] ++ [10] ∈ Z := HME.out _ ((HMU.out _).2 ((HXY.out _).1 (List.getElem_mem hlt)))
      generalize XY[k] = s at *
      have i1 : (k : Int) < XY.length := by omega
      have hslen : s.length ≤ 2000 := by omega
      have HC := Lib.hid (HZ.out s wr hbel)
      have HMEM := Lib.hid hmem
      clear hsl hbel hmem
      cases hh : hasL Z s with
      | true =>
        rw [hh] at HC
        go_wp2_with (fail)
        refine HC.out.mono ?_
        rintro e w8 ⟨rfl, hw8⟩
        have hb8 := HB.out.trans (hw8.mono HB.out.size)
        have HB8 := Lib.hid hb8
        clear hw8 hb8
        go_wp2_with (fail)
        go_roundw
        case rel => exact ⟨k + 1, by omega, by go_num, HB8⟩
        case measure => simp [intOf]; omega
      | false =>
        rw [hh] at HC
        have h2 : hasL Z (s ++ [10]) = true := by
          rw [hasL_iff]
          rcases HMEM.out with h | h
          · rw [← hasL_iff, hh] at h; cases h
          · exact h
        have HC2 := Lib.hid (fun W h => HZ.out (s ++ [10]) W h)
        rw [h2] at HC2
        clear h2
        go_wp2_with (fail)
        refine HC.out.mono ?_
        rintro e w8 ⟨rfl, hw8⟩
        have hb8 := HB.out.trans (hw8.mono HB.out.size)
        have HB8 := Lib.hid hb8
        clear hw8 hb8
        go_wp2_with (fail)
        refine (HC2.out _ HB8.out).mono ?_
        rintro e w9 ⟨rfl, hw9⟩
        have hb9 := HB8.out.trans (hw9.mono HB8.out.size)
        have HB9 := Lib.hid hb9
        clear hw9 hb9
        go_wp2_with (fail)
        go_roundw
        case rel => exact ⟨k + 1, by omega, by go_num, HB9⟩
        case measure => simp [intOf]; omega
    · obtain rfl : k = XY.length := by omega
      clear hbel
      go_wp2_with (fail)
      go_loopw [60] (fun t60 W => ∃ k : Nat, k ≤ Z.length ∧ t60 = .int .i64 k ∧ Hid (Below w7.heap.size w7 W)) (fun t60 _ => Z.length - (intOf t60).toNat)
      case atStart => exact ⟨0, by omega, rfl, HB⟩
      case round =>
        clear HB
        obtain ⟨k, hk, rfl, HB⟩ := hrel
        have hbel := HB.out
        have i0' : (0 : Int) ≤ k := by omega
        by_cases hlt : k < Z.length
        · have cS := strs_at0 (hrc7.below hbel) hlt
          have hof := HOE.out _ (List.getElem_mem hlt)
          have hql := flat_get Z k hlt
          rw [HFZ.out] at hql
          generalize Z[k] = q at *
          have i1 : (k : Int) < Z.length := by omega
          have HC1 := Lib.hid (HX.out q wr hbel)
          have HOF := Lib.hid hof
          have hqlen : q.length ≤ 4002 := by omega
          clear hbel hof hql
          cases h1 : hasL X q with
          | true =>
            rw [h1] at HC1
            go_wp2_with (fail)
            refine HC1.out.mono ?_
            rintro e w8 ⟨rfl, hw8⟩
            have hb8 := HB.out.trans (hw8.mono HB.out.size)
            have HB8 := Lib.hid hb8
            clear hw8 hb8
            go_wp2_with (fail)
            go_roundw
            case rel => exact ⟨k + 1, by omega, by go_num, HB8⟩
            case measure => simp [intOf]; omega
          | false =>
            rw [h1] at HC1
            have HC2 := Lib.hid (fun W h => HY.out q W h)
            cases h2 : hasL Y q with
            | true =>
              rw [h2] at HC2
              go_wp2_with (fail)
              refine HC1.out.mono ?_
              rintro e w8 ⟨rfl, hw8⟩
              have hb8 := HB.out.trans (hw8.mono HB.out.size)
              have HB8 := Lib.hid hb8
              clear hw8 hb8
              go_wp2_with (fail)
              refine (HC2.out _ HB8.out).mono ?_
              rintro e w9 ⟨rfl, hw9⟩
              have hb9 := HB8.out.trans (hw9.mono HB8.out.size)
              have HB9 := Lib.hid hb9
              clear hw9 hb9
              go_wp2_with (fail)
              go_roundw
              case rel => exact ⟨k + 1, by omega, by go_num, HB9⟩
              case measure => simp [intOf]; omega
            | false =>
              rw [h2] at HC2
              obtain ⟨s, hsu, hq⟩ := HOF.out
              have hsm := (HMU.out s).1 hsu
              have hq : q = s ++ [10] := by
                rcases hq with rfl | h
                · exfalso
                  rcases hsm with h | h
                  · rw [← hasL_iff, h1] at h; cases h
                  · rw [← hasL_iff, h2] at h; cases h
                · exact h
              subst hq
              have HSM := Lib.hid hsm
              have hslen : s.length ≤ 4001 := by rw [List.length_append] at hqlen; simp at hqlen; omega
              clear HOF hsm hsu hqlen
              go_wp2_with (fail)
              refine HC1.out.mono ?_
              rintro e w8 ⟨rfl, hw8⟩
              have hb8 := HB.out.trans (hw8.mono HB.out.size)
              have HB8 := Lib.hid hb8
              clear hw8 hb8
              go_wp2_with (fail)
              refine (HC2.out _ HB8.out).mono ?_
              rintro e w9 ⟨rfl, hw9⟩
              have hb9 := HB8.out.trans (hw9.mono HB8.out.size)
              have HB9 := Lib.hid hb9
              clear hw9 hb9
              go_wp2_with (fail)
              cases h3 : hasL X s with
              | true =>
                have HC3 := Lib.hid (HX.out s _ HB9.out)
                rw [h3] at HC3
                refine HC3.out.mono ?_
                rintro e w10 ⟨rfl, hw10⟩
                have hb10 := HB9.out.trans (hw10.mono HB9.out.size)
                have HB10 := Lib.hid hb10
                clear hw10 hb10
                go_wp2_with (fail)
                go_roundw
                case rel => exact ⟨k + 1, by omega, by go_num, HB10⟩
                case measure => simp [intOf]; omega
              | false =>
                have h4 : hasL Y s = true := by
                  rw [hasL_iff]
                  rcases HSM.out with h | h
                  · rw [← hasL_iff, h3] at h; cases h
                  · exact h
                have HC3 := Lib.hid (HX.out s _ HB9.out)
                have HC4 := Lib.hid (fun W h => HY.out s W h)
                rw [h3] at HC3
                rw [h4] at HC4
                clear h4
                refine HC3.out.mono ?_
                rintro e w10 ⟨rfl, hw10⟩
                have hb10 := HB9.out.trans (hw10.mono HB9.out.size)
                have HB10 := Lib.hid hb10
                clear hw10 hb10
                go_wp2_with (fail)
                refine (HC4.out _ HB10.out).mono ?_
                rintro e w11 ⟨rfl, hw11⟩
                have hb11 := HB10.out.trans (hw11.mono HB10.out.size)
                have HB11 := Lib.hid hb11
                clear hw11 hb11
                go_wp2_with (fail)
                go_roundw
                case rel => exact ⟨k + 1, by omega, by go_num, HB11⟩
                case measure => simp [intOf]; omega
        · obtain rfl : k = Z.length := by omega
          clear hbel
          go_wp2_with (fail)
          go_ret
          exact ⟨rfl, hB.trans (HB.out.mono (Nat.le_trans hs7 (by omega)))⟩
end Go.Proofs.YtgbiddjkjdggpaaDoor
