/- hawserref17.plain, joined, union. -/
import Derived.Test.YtgbiddjkjdggpaaDoorLines
import Derived.Test.YtgbiddjkjdggpaaDoorPlainUnion
import Derived.Test.YtgbiddjkjdggpaaDoorAppendReads
import Derived.Laws.OwnMore
import Derived.Deep.QuietTactic
import Derived.BigQuiet
namespace Go.Proofs.YtgbiddjkjdggpaaDoor
open Go.RowKit Plain

theorem plain_any (A : Option Addr) (c : Nat) (l : List (List UInt8)) (w : World) (hr : Reads w 1 A l.length (strs l)) (hl : l.length ≤ 4294967296) (hf : l.flatten.length ≤ 4294967296) :
    Calls Tryd.prog 31 #[.slice A l.length c] w (Ret w (.string ⟨l.flatten.toArray⟩)) := by
  have HFL := Lib.hid hf
  clear hf
  go_enter Tryd.func31, Tryd.ntmps31
  go_wp2_with (fail)
  go_loopw [3, 4] (fun t3 t4 W => ∃ k : Nat, k ≤ l.length ∧ t4 = .int .i64 k ∧ t3 = .string ⟨(l.take k).flatten.toArray⟩ ∧ Hid (Below w.heap.size w W)) (fun _ t4 _ => l.length - (intOf t4).toNat)
  case atStart => exact ⟨0, by omega, rfl, by simp, Lib.hid (Below.refl _ _)⟩
  case round =>
    obtain ⟨k, hk, rfl, rfl, HB⟩ := hrel
    have hbel := HB.out
    by_cases hlt : k < l.length
    · obtain ⟨ad, rfl, cS⟩ := (hr.below hbel).str_at hlt
      have hf : (l.take k).flatten ++ l[k] = (l.take (k + 1)).flatten := by rw [List.take_succ_eq_append_getElem hlt]; simp only [List.flatten_append, List.flatten_cons, List.flatten_nil, List.append_nil]
      have hlen := flat_take_le l (k + 1)
      rw [← hf, List.length_append] at hlen
      have hle := HFL.out
      generalize l[k] = s at *
      have HF := Lib.hid hf
      have i0 : (0 : Int) ≤ k := by omega
      have i1 : (k : Int) < l.length := by omega
      clear hf hbel
      generalize hacc : (l.take k).flatten = acc at *
      go_wp2_with (fail)
      go_roundw
      case rel => exact ⟨k + 1, by omega, by go_num, by rw [← HF.out], HB⟩
      case measure => simp [intOf]; omega
    · obtain rfl : k = l.length := by omega
      rw [List.take_of_length_le (Nat.le_refl _)]
      clear hbel
      go_wp2_with (fail)
      go_ret
      exact ⟨rfl, HB.out⟩

set_option maxHeartbeats 1000000 in
theorem joined_any (A : Option Addr) (c : Nat) (l : List (List UInt8)) (w : World) (hr : Reads w 1 A l.length (strs l)) (hl : l.length ≤ 4294967296) (hline : ∀ s ∈ l, IsLine s) (hf : (ends l).flatten.length ≤ 4294967296) :
    Calls Tryd.prog 29 #[.slice A l.length c] w (Ret w (.string ⟨(ends l).flatten.toArray⟩)) := by
  have hel := ends_length l
  have HFL := Lib.hid hf
  have HLINE := Lib.hid hline
  clear hf hline
  go_enter Tryd.func29, Tryd.ntmps29
  go_wp2_with (fail)
  go_loopw [3, 4] (fun t3 t4 W => ∃ k : Nat, k ≤ l.length ∧ t4 = .int .i64 k ∧ t3 = .string ⟨((ends l).take k).flatten.toArray⟩ ∧ Hid (Below w.heap.size w W)) (fun _ t4 _ => l.length - (intOf t4).toNat)
  case atStart => exact ⟨0, by omega, rfl, by simp, Lib.hid (Below.refl _ _)⟩
  case round =>
    obtain ⟨k, hk, rfl, rfl, HB⟩ := hrel
    have hbel := HB.out
    by_cases hlt : k < l.length
    · obtain ⟨ad, rfl, cS⟩ := (hr.below hbel).str_at hlt
      have hg := ends_get l k hlt
      rw [List.getElem?_eq_getElem (by omega)] at hg
      injection hg with hg
      have hf : ((ends l).take k).flatten ++ (if k + 1 < l.length then fixE l[k] else l[k]) = ((ends l).take (k + 1)).flatten := by
        rw [List.take_succ_eq_append_getElem (by omega), hg]; simp only [List.flatten_append, List.flatten_cons, List.flatten_nil, List.append_nil]
      have hlen := flat_take_le (ends l) (k + 1)
      rw [← hf, List.length_append] at hlen
      have hle := HFL.out
      obtain ⟨p, x, hs, _⟩ := HLINE.out _ (List.getElem_mem hlt)
      rw [hs] at hf hlen cS
      have i0 : (0 : Int) ≤ k := by omega
      have i1 : (k : Int) < l.length := by omega
      clear hbel hg hs
      generalize hacc : ((ends l).take k).flatten = acc at *
      by_cases hm : k + 1 < l.length
      · have dM : decide ((k : Int) < (l.length : Int) - 1) = true := by simp; omega
        rw [if_pos hm, fixE_line] at hf hlen
        by_cases e : x = 10
        · have dx : ((x.toNat : Int) != 10) = false := by rw [e]; rfl
          rw [if_pos e] at hf hlen
          rw [List.length_append] at hlen
          have HF := Lib.hid hf
          have HE := Lib.hid e
          clear hf e
          have e1 : IntKind.i64.wrap ((l.length : Int) - 1) = (l.length : Int) - 1 := IntWalk.i64_in _ (by omega)
          go_wp2_with (fail)
          go_quiet (fail)
          go_wp2_with (fail)
          go_roundw
          case rel => exact ⟨k + 1, by omega, by go_num, by rw [← HF.out], Lib.hid (below_drewN HB.out _)⟩
          case measure => simp [intOf]; omega
        · have dx : ((x.toNat : Int) != 10) = true := by
            simp only [bne_iff_ne, ne_eq]
            intro h; exact e (UInt8.toNat.inj (by simp; omega))
          rw [if_neg e] at hf hlen
          rw [List.length_append, List.length_append] at hlen
          have HF := Lib.hid hf
          have HE := Lib.hid e
          clear hf e
          have e1 : IntKind.i64.wrap ((l.length : Int) - 1) = (l.length : Int) - 1 := IntWalk.i64_in _ (by omega)
          go_wp2_with (fail)
          go_quiet (fail)
          go_wp2_with (fail)
          go_roundw
          case rel => exact ⟨k + 1, by omega, by go_num, by rw [← HF.out]; simp, Lib.hid (below_drewN HB.out _)⟩
          case measure => simp [intOf]; omega
      · have dM : decide ((k : Int) < (l.length : Int) - 1) = false := by simp; omega
        rw [if_neg hm] at hf hlen
        rw [List.length_append] at hlen
        have HF := Lib.hid hf
        clear hf
        have e1 : IntKind.i64.wrap ((l.length : Int) - 1) = (l.length : Int) - 1 := IntWalk.i64_in _ (by omega)
        go_wp2_with (fail)
        go_quiet (fail)
        go_wp2_with (fail)
        go_roundw
        case rel => exact ⟨k + 1, by omega, by go_num, by rw [← HF.out], Lib.hid (below_drewN HB.out _)⟩
        case measure => simp [intOf]; omega
    · obtain rfl : k = l.length := by omega
      rw [List.take_of_length_le (by omega)]
      clear hbel
      go_wp2_with (fail)
      go_ret
      exact ⟨rfl, HB.out⟩

set_option maxHeartbeats 2000000 in
theorem union_ref (a b : List UInt8) (w : World) (ha : a.length ≤ 65536) (hb : b.length ≤ 65536) :
    Calls Tryd.prog 19 #[.string ⟨a.toArray⟩, .string ⟨b.toArray⟩] w (Ret w (.string ⟨(unionM a b).toArray⟩)) := by
  obtain ⟨i0, hi, hz0, hz1, hz2⟩ := info_parts info_string
  have hla := linesL_length a
  have hlb := linesL_length b
  have HUF := Lib.hid (unionM_le a b)
  have HUL := Lib.hid (unionL_length (linesL a) (linesL b))
  have HULN := Lib.hid (unionL_line a b)
  have HUM := Lib.hid (show unionM a b = (ends (unionL (linesL a) (linesL b))).flatten from rfl)
  have HLA := Lib.hid (Lines_ref a w (by omega))
  have HLB := Lib.hid (fun W => Lines_ref b W (by omega))
  generalize linesL a = X at *
  generalize linesL b = Y at *
  generalize unionM a b = res at *
  go_enter Tryd.func19, Tryd.ntmps19
  go_wp2_with (fail)
  refine HLA.out.mono ?_
  rintro e w1 ⟨A, ca, rfl, hca, hma, hra, hw1, hA0⟩
  go_wp2_with (fail)
  refine (HLB.out w1).mono ?_
  rintro e w2 ⟨B, cb, rfl, hcb, hmb, hrb, hw2, hB0⟩
  have hra2 := hra.below hw2
  have hB2 := hw1.trans (hw2.mono hw1.size)
  clear hra hw1 hw2
  have hx3 := hra2.below ((Below.refl w2.heap.size w2).alloc (Nat.le_refl _) (.cells #[] 9))
  go_wp2_with (at_builtin; refine wpList_append_reads rfl _ _ 32 rfl w2.heap.size 9 i0 _ 1 16 Tryd.underlying32 hi hz0 hz1 hz2 rfl (by decide) _ _ _ rfl (World.ownsRow_lit w2 #[] 0 (Nat.le_refl _) (by unfold maxLen; omega) rfl) A X.length ca (strs X) rfl hx3 hA0 (strs_oneCell X) ?c3 ?c4 ?c5 ?_)
  case c3 => unfold maxLen; omega
  case c4 => omega
  case c5 => simp
  intro v6 w6 hown6 hg6 _
  have hB6 : Below w2.heap.size w2 w6 := ((Below.refl _ _).alloc (Nat.le_refl _) _).grown hg6 (by simp) (fun k hk => by cases hk; exact Nat.le_refl _)
  have HB6 := Lib.hid hB6
  have hown6' : w6.ownsRow w2.heap.size 9 1 v6 (X ++ addsL X (Y.take 0)).length (strs (X ++ addsL X (Y.take 0))) := by simpa [addsL] using hown6
  clear hg6 hx3 hB6 hown6
  go_wp2_with (fail)
  go_loopw [7, 8] (fun t7 t8 W => ∃ i : Nat, i ≤ Y.length ∧ t8 = .int .i64 i ∧ W.ownsRow w2.heap.size 9 1 t7 (X ++ addsL X (Y.take i)).length (strs (X ++ addsL X (Y.take i))) ∧ Hid (Below w2.heap.size w2 W)) (fun _ t8 _ => Y.length - (intOf t8).toNat)
  case atStart => exact ⟨0, by omega, rfl, hown6', HB6⟩
  case round =>
    clear HB6 hown6'
    obtain ⟨i, hi', rfl, hown, HB⟩ := hrel
    have hbel := HB.out
    have i0' : (0 : Int) ≤ i := by omega
    by_cases hlt : i < Y.length
    · obtain ⟨bd, rfl, cY⟩ := (hrb.below hbel).str_at hlt
      have hadd := addsL_take X Y i hlt
      have hlen : (X ++ addsL X (Y.take i)).length ≤ X.length + Y.length := by
        have := unionL_length X (Y.take i)
        unfold unionL at this
        rw [List.length_take] at this
        omega
      generalize Y[i] = s at *
      have i1 : (i : Int) < Y.length := by omega
      have HADD := Lib.hid hadd
      have HLEN := Lib.hid hlen
      have HOWN := Lib.hid hown
      clear hadd hlen hbel hown
      go_wp2_with (fail)
      go_loopw [9, 10] (fun t9 t10 W => ∃ k : Nat, k ≤ X.length ∧ t10 = .int .i64 k ∧ t9 = .bool (hasL (X.take k) s) ∧ Hid (Below wr.heap.size wr W)) (fun _ t10 _ => X.length - (intOf t10).toNat)
      case atStart => exact ⟨0, by omega, rfl, by rw [List.take_zero, hasL_nil], Lib.hid (Below.refl _ _)⟩
      case round =>
        obtain ⟨k, hk, rfl, rfl, HB2⟩ := hrel
        have j0 : (0 : Int) ≤ k := by omega
        by_cases hltk : k < X.length
        · obtain ⟨ad, rfl, cX⟩ := ((hra2.below HB.out).below HB2.out).str_at hltk
          have cY2 := (HB2.out.cell (World.block_lt_of_cell? _ _ cY)).trans cY
          have ht := hasL_take X s k hltk
          generalize X[k] = q at *
          have j1 : (k : Int) < X.length := by omega
          have HT := Lib.hid ht
          clear ht
          cases hf : hasL (X.take k) s with
          | true =>
            go_wp2_with (fail)
            go_quiet (fail)
            go_wp2_with (fail)
            go_roundw
            case rel => exact ⟨k + 1, by omega, by go_num, by rw [HT.out, hf]; rfl, Lib.hid (below_drewN HB2.out _)⟩
            case measure => simp [intOf]; omega
          | false =>
            go_wp2_with (fail)
            go_quiet (fail)
            go_wp2_with (fail)
            go_roundw
            case rel => exact ⟨k + 1, by omega, by go_num, by rw [HT.out, hf]; rfl, Lib.hid (below_drewN HB2.out _)⟩
            case measure => simp [intOf]; omega
        · obtain rfl : k = X.length := by omega
          rw [List.take_of_length_le (Nat.le_refl _)]
          have cY2 := (HB2.out.cell (World.block_lt_of_cell? _ _ cY)).trans cY
          have hown := own_below HOWN.out HB2.out
          have hB3 := HB.out.trans (HB2.out.mono HB.out.size)
          have HB3 := Lib.hid hB3
          clear hB3
          cases hf : hasL X s with
          | true =>
            go_wp2_with (fail)
            go_roundw
            case rel =>
              have ha := HADD.out
              rw [hf, if_pos rfl] at ha
              exact ⟨i + 1, by omega, by go_num, by rw [ha]; exact hown, HB3⟩
            case measure => simp [intOf]; omega
          | false =>
            go_wp2_with (at_builtin; refine wpList_append_own _ rfl _ _ 32 rfl w2.heap.size 9 i0 _ 1 16 Tryd.underlying32 hi hz0 hz1 hz2 rfl (by decide) _ _ _ rfl (hown.alloc _) ⟨wr.heap.size, 0, none⟩ 1 1 [.string ⟨s.toArray⟩] rfl rfl (laid_one _ _ _) (one_oneCell rfl) ?d3 ?d4 ?d5 ?_)
            case d3 => have := HLEN.out; unfold maxLen; omega
            case d4 => have := HLEN.out; omega
            case d5 => have := HB3.out.size; simp; omega
            intro v7 w7 hown7 hg7 _
            have hb7 : Below w2.heap.size w2 w7 := (HB3.out.alloc HB3.out.size _).grown hg7 (by have := HB3.out.size; simp; omega) (fun k hk => (hown.lt k hk).1)
            have ha := HADD.out
            rw [hf, if_neg (by decide)] at ha
            have hown8 : w7.ownsRow w2.heap.size 9 1 v7 (X ++ addsL X (Y.take (i + 1))).length (strs (X ++ addsL X (Y.take (i + 1)))) := by
              rw [ha, ← List.append_assoc, strs_append, List.length_append, List.length_append]; exact hown7
            have HB7 := Lib.hid hb7
            clear hown7 hg7 hb7 ha
            go_wp2_with (fail)
            go_roundw
            case rel => exact ⟨i + 1, by omega, by go_num, hown8, HB7⟩
            case measure => simp [intOf]; omega
    · obtain rfl : i = Y.length := by omega
      rw [List.take_of_length_le (Nat.le_refl _)] at hown
      have hU : X ++ addsL X Y = unionL X Y := rfl
      rw [hU] at hown
      clear hU
      have hull := HUL.out
      have huln := HULN.out
      have huf := HUF.out
      have HRES := Lib.hid HUM.out
      clear HUL HULN HUF HUM
      generalize unionL X Y = U at *
      obtain ⟨C, cc, rfl, hcc, hmc, hrc, _⟩ := of_own0 hown
      have hJ := joined_any C cc U wr hrc (by omega) huln (by omega)
      have HJ := Lib.hid hJ
      clear hJ hown hrc hbel huln
      go_wp2_with (fail)
      refine HJ.out.mono ?_
      rintro e w8 ⟨rfl, hw8⟩
      go_wp2_with (fail)
      go_ret
      exact ⟨by rw [HRES.out]; rfl, (hB2.trans (HB.out.mono hB2.size)).trans (hw8.mono (Nat.le_trans hB2.size HB.out.size))⟩
end Go.Proofs.YtgbiddjkjdggpaaDoor
