/- hawserref01: Split, Parent, Base, Fold, Order, Within. -/
import Derived.Test.YtpfpjinkifggdaaDoorNameRef
import Derived.Test.YtpfpjinkifggdaaDoorOrder
import Derived.Test.YtpfpjinkifggdaaDoorTextsSame
import Derived.Test.YtpfpjinkifggdaaDoorFold
namespace Go.Proofs.YtpfpjinkifggdaaDoor
open Go.RowKit Plain

theorem Split_ref (s : List UInt8) (w : World) (hs : s.length ≤ 8796093022200) :
    Calls Tryd.prog 27 #[.string ⟨s.toArray⟩] w (StrsOut w (splitM s)) := by
  have hp := Path_ref s w hs
  have HS := Lib.hid (fun W => Parts_ref s W hs)
  unfold splitM
  generalize parts s = l at *
  cases hok : pathOK s with
  | false =>
    rw [hok] at hp
    have HP := Lib.hid hp
    clear hp hok
    go_enter Tryd.func27, Tryd.ntmps27
    go_wp2_with (fail)
    refine HP.out.mono ?_
    rintro e w1 ⟨rfl, hw1⟩
    go_wp2_with (fail)
    go_ret
    exact ⟨none, 0, rfl, Nat.le_refl _, Nat.zero_le _, Reads.nil _ _ _, hw1, fun _ => rfl⟩
  | true =>
    rw [hok] at hp
    have HP := Lib.hid hp
    clear hp hok
    rw [if_pos rfl]
    go_enter Tryd.func27, Tryd.ntmps27
    go_wp2_with (fail)
    refine HP.out.mono ?_
    rintro e w1 ⟨rfl, hw1⟩
    go_wp2_with (fail)
    refine (HS.out _).mono ?_
    rintro e w2 ⟨A, c, rfl, hc, hm, hr, hw2, h0⟩
    go_wp2_with (fail)
    go_ret
    exact ⟨A, c, rfl, hc, hm, hr, hw1.trans (hw2.mono hw1.size), h0⟩

theorem splitM_length (s : List UInt8) : (splitM s).length ≤ 401 := by
  unfold splitM
  split
  · rename_i h
    have := pathOK_len h
    have := List.count_le_length (a := (47 : UInt8)) (l := s)
    rw [parts_length]; omega
  · simp
theorem Parent_ref (s : List UInt8) (w : World) (hs : s.length ≤ 8796093022200) :
    Calls Tryd.prog 23 #[.string ⟨s.toArray⟩] w (Ret w (.string ⟨(parentM s).toArray⟩)) := by
  have hS := Split_ref s w hs
  by_cases hok : pathOK s = true
  · by_cases h47 : 47 ∈ s
    · obtain ⟨p, q, rfl, hq⟩ := last_cut h47
      have hsp : splitM (p ++ 47 :: q) = parts p ++ [q] := by unfold splitM; rw [if_pos hok, parts_last p q hq]
      rw [hsp] at hS
      have hpar := parent_cut p q hq hok
      have hpn : 1 ≤ (parts p).length := by rw [parts_length]; omega
      have hpn2 := splitM_length (p ++ 47 :: q)
      rw [hsp, List.length_append, List.length_singleton] at hpn2
      have hll : (parts p ++ [q]).length = (parts p).length + 1 := by simp
      have hget : (strs (parts p ++ [q]))[(parts p).length]? = some (.string ⟨q.toArray⟩) := by
        simp [strs, strV]
      have htk : (p ++ 47 :: q).take p.length = p := by simp
      have hlen : ((p ++ 47 :: q).length : Int) = p.length + 1 + q.length := by simp; omega
      have h400 := pathOK_len hok
      have hq400 : p.length + 1 + q.length ≤ 400 := by simp at h400; omega
      unfold StrsOut at hS
      rw [hll] at hS
      generalize parts p = L at *
      have HS := Lib.hid hS
      have HPAR := Lib.hid hpar
      have HGET := Lib.hid hget
      clear hS hpar hok h47 hq hsp hget hll h400
      go_enter Tryd.func23, Tryd.ntmps23
      go_wp2_with (fail)
      refine HS.out.mono ?_
      rintro e w1 ⟨A, c, rfl, hc, hm, hr, hw1, hA0⟩
      obtain ⟨ad, rfl, hcell⟩ := hr.2 (by omega)
      have hc1 := hcell _ _ HGET.out
      have e1 : IntKind.i64.wrap ((L.length : Int) + 1 - 1) = (L.length : Int) := by rw [show (L.length : Int) + 1 - 1 = L.length by omega]; exact IntWalk.i64_in _ (by omega)
      have i1 : (L.length : Int) < (L.length : Int) + 1 := by omega
      clear hr hcell
      go_wp2_with (fail)
      go_ret
      exact ⟨by rw [HPAR.out]; simp; rw [show p.length + (q.length + 1) - q.length - 1 = p.length by omega]; exact htk, hw1⟩
    · have hsp : splitM s = [s] := by unfold splitM; rw [if_pos hok, parts_none s h47]
      rw [hsp] at hS
      rw [parent_none h47]
      have HS := Lib.hid hS
      clear hS hok h47 hsp
      go_enter Tryd.func23, Tryd.ntmps23
      go_wp2_with (fail)
      refine HS.out.mono ?_
      rintro e w1 ⟨A, c, rfl, hc, hm, hr, hw1, hA0⟩
      go_wp2_with (fail)
      go_ret
      exact ⟨rfl, hw1⟩
  · have hf : pathOK s = false := by simpa using hok
    have hsp : splitM s = [] := by unfold splitM; rw [hf]; rfl
    have hpar : parentM s = [] := by unfold parentM; rw [hf]; rfl
    rw [hsp] at hS
    rw [hpar]
    have HS := Lib.hid hS
    clear hS hok hf hsp hpar
    go_enter Tryd.func23, Tryd.ntmps23
    go_wp2_with (fail)
    refine HS.out.mono ?_
    rintro e w1 ⟨A, c, rfl, hc, hm, hr, hw1, hA0⟩
    go_wp2_with (fail)
    go_ret
    exact ⟨rfl, hw1⟩

theorem Base_ref (s : List UInt8) (w : World) (hs : s.length ≤ 8796093022200) :
    Calls Tryd.prog 24 #[.string ⟨s.toArray⟩] w (Ret w (.string ⟨(baseM s).toArray⟩)) := by
  have hS := Split_ref s w hs
  by_cases hok : pathOK s = true
  · have hsp : splitM s = parts s := by unfold splitM; rw [if_pos hok]
    have hl := splitM_length s
    rw [hsp] at hS hl
    have hb : baseM s = (parts s).getLast (parts_ne s) := by unfold baseM; rw [if_pos hok]
    have hlast : (parts s)[(parts s).length - 1]? = some (baseM s) := by
      rw [hb, ← List.getLast?_eq_getElem?, List.getLast?_eq_some_getLast (parts_ne s)]
    have HPN := Lib.hid (show 1 ≤ (parts s).length by rw [parts_length]; omega)
    clear hb
    generalize baseM s = q at *
    generalize parts s = L at *
    have HS := Lib.hid hS
    have HLAST := Lib.hid hlast
    clear hS hok hsp hlast
    go_enter Tryd.func24, Tryd.ntmps24
    go_wp2_with (fail)
    refine HS.out.mono ?_
    rintro e w1 ⟨A, c, rfl, hc, hm, hr, hw1, hA0⟩
    have hpn := HPN.out
    obtain ⟨ad, rfl, hc1⟩ := hr.str_at (show L.length - 1 < L.length by omega)
    have hg : L[L.length - 1]'(by omega) = q := by
      have h := HLAST.out
      rw [List.getElem?_eq_getElem (by omega)] at h
      injection h
    rw [hg] at hc1
    have e1 : IntKind.i64.wrap ((L.length : Int) - 1) = (L.length : Int) - 1 := IntWalk.i64_in _ (by omega)
    have e2 : ((L.length : Int) - 1).toNat = L.length - 1 := by omega
    have e3 : (0 : Int) ≤ (L.length : Int) - 1 := by omega
    have e4 : ((L.length : Int) == 0) = false := by rw [beq_eq_false_iff_ne]; omega
    clear hr hg
    go_wp2_with (fail)
    go_ret
    exact ⟨rfl, hw1⟩
  · have hf : pathOK s = false := by simpa using hok
    have hsp : splitM s = [] := by unfold splitM; rw [hf]; rfl
    have hpar : baseM s = [] := by unfold baseM; rw [hf]; rfl
    rw [hsp] at hS
    rw [hpar]
    have HS := Lib.hid hS
    clear hS hok hf hsp hpar
    go_enter Tryd.func24, Tryd.ntmps24
    go_wp2_with (fail)
    refine HS.out.mono ?_
    rintro e w1 ⟨A, c, rfl, hc, hm, hr, hw1, hA0⟩
    go_wp2_with (fail)
    go_ret
    exact ⟨rfl, hw1⟩

theorem foldM_take (s : List UInt8) (k : Nat) (h : k < s.length) : foldM (s.take (k + 1)) = foldM (s.take k) ++ [lowB s[k]] := by
  unfold foldM; rw [List.take_succ_eq_append_getElem h, List.map_append]; rfl
theorem info_byte01 : (Tryd.prog.info? 5).map (fun i => (i.zero, i.size, i.bytes)) = some (some (.int .u8 0), 1, 1) := by kernel_rfl

set_option maxHeartbeats 2000000 in
theorem Fold_ref (s : List UInt8) (w : World) (hs : s.length ≤ 8796093022200) :
    Calls Tryd.prog 25 #[.string ⟨s.toArray⟩] w (Ret w (.string ⟨(foldM s).toArray⟩)) := by
  obtain ⟨i0, hi, hz0, hz1, hz2⟩ := info_parts info_byte01
  go_enter Tryd.func25, Tryd.ntmps25
  go_wp2_with (fail)
  go_loopw [3, 4] (fun t3 t4 W => ∃ k : Nat, k ≤ s.length ∧ t4 = .int .i64 k ∧ W.ownsRow w.heap.size 5 1 t3 k (bytesV (foldM (s.take k))) ∧ Hid (Below w.heap.size w W)) (fun _ t4 _ => s.length - (intOf t4).toNat)
  case atStart => exact ⟨0, by omega, rfl, World.ownsRow_nil _ _ _ _, Lib.hid (Below.refl _ _)⟩
  case round =>
    obtain ⟨k, hk, rfl, hown, HB⟩ := hrel
    have hsw := HB.out.size
    have i0' : (0 : Int) ≤ k := by omega
    by_cases hlt : k < s.length
    · have i1 : (k : Int) < s.length := by omega
      have ht := foldM_take s k hlt
      have hgb : (ByteArray.mk s.toArray)[k]'(by simpa [ByteArray.size] using hlt) = s[k] := rfl
      generalize s[k] = x at *
      have hx0 : (0 : Int) ≤ x.toNat := by omega
      have hx255 := x.toNat_lt
      by_cases hr : 65 ≤ x.toNat ∧ x.toNat ≤ 90
      · rw [lowB_toNat x hr.1 hr.2] at ht
        have r1 : (65 : Int) ≤ x.toNat := by omega
        have r2 : (x.toNat : Int) ≤ 90 := by omega
        have HT := Lib.hid ht
        clear ht hr
        go_wp2_with (at_builtin; refine wpList_append_own _ rfl _ _ 37 rfl w.heap.size 5 i0 _ 1 1 Tryd.underlying37 hi hz0 hz1 hz2 rfl (by decide) _ _ _ rfl (hown.alloc _) ⟨wr.heap.size, 0, none⟩ 1 1 [.int .u8 ((x.toNat : Int) - 65 + 97)] rfl rfl (laid_one _ _ _) (one_oneCell rfl) ?c3 ?c4 ?c5 ?_)
        case c3 => unfold maxLen; omega
        case c4 => omega
        case c5 => first | (simp; omega) | omega
        intro v1 w1 hown1 hg1 _
        have hb1 : Below w.heap.size w w1 := (HB.out.alloc hsw _).grown hg1 (by simp; omega) (fun k hk => (hown.lt k hk).1)
        have hown2 : w1.ownsRow w.heap.size 5 1 v1 (k + 1) (bytesV (foldM (s.take (k + 1)))) := by
          rw [HT.out, bytesV_append]
          have e : bytesV [UInt8.ofNat (x.toNat + 32)] = [.int .u8 ((x.toNat : Int) - 65 + 97)] := by
            simp only [bytesV, List.map_cons, List.map_nil]
            congr 2
            rw [UInt8.toNat_ofNat_of_lt' (by show _ < 256; omega)]; omega
          rw [e]; exact hown1
        have HB1 := Lib.hid hb1
        clear hg1 hb1 hown1
        go_wp2_with (fail)
        go_roundw
        case rel => exact ⟨k + 1, by omega, by go_num, hown2, HB1⟩
        case measure => simp [intOf]; omega
      · rw [lowB_out x (by omega)] at ht
        have HT := Lib.hid ht
        clear ht
        by_cases hl : x.toNat < 65
        · have r1 : (x.toNat : Int) < 65 := by omega
          clear hr
          go_wp2_with (at_builtin; refine wpList_append_own _ rfl _ _ 37 rfl w.heap.size 5 i0 _ 1 1 Tryd.underlying37 hi hz0 hz1 hz2 rfl (by decide) _ _ _ rfl (hown.alloc _) ⟨wr.heap.size, 0, none⟩ 1 1 [.int .u8 (x.toNat : Int)] rfl rfl (laid_one _ _ _) (one_oneCell rfl) ?d3 ?d4 ?d5 ?_)
          case d3 => unfold maxLen; omega
          case d4 => omega
          case d5 => first | (simp; omega) | omega
          intro v1 w1 hown1 hg1 _
          have hb1 : Below w.heap.size w w1 := (HB.out.alloc hsw _).grown hg1 (by simp; omega) (fun k hk => (hown.lt k hk).1)
          have hown2 : w1.ownsRow w.heap.size 5 1 v1 (k + 1) (bytesV (foldM (s.take (k + 1)))) := by
            rw [HT.out, bytesV_append]; exact hown1
          have HB1 := Lib.hid hb1
          clear hg1 hb1 hown1
          go_wp2_with (fail)
          go_roundw
          case rel => exact ⟨k + 1, by omega, by go_num, hown2, HB1⟩
          case measure => simp [intOf]; omega
        · have r1 : (65 : Int) ≤ x.toNat := by omega
          have r2 : (90 : Int) < x.toNat := by omega
          clear hr
          go_wp2_with (at_builtin; refine wpList_append_own _ rfl _ _ 37 rfl w.heap.size 5 i0 _ 1 1 Tryd.underlying37 hi hz0 hz1 hz2 rfl (by decide) _ _ _ rfl (hown.alloc _) ⟨wr.heap.size, 0, none⟩ 1 1 [.int .u8 (x.toNat : Int)] rfl rfl (laid_one _ _ _) (one_oneCell rfl) ?e3 ?e4 ?e5 ?_)
          case e3 => unfold maxLen; omega
          case e4 => omega
          case e5 => first | (simp; omega) | omega
          intro v1 w1 hown1 hg1 _
          have hb1 : Below w.heap.size w w1 := (HB.out.alloc hsw _).grown hg1 (by simp; omega) (fun k hk => (hown.lt k hk).1)
          have hown2 : w1.ownsRow w.heap.size 5 1 v1 (k + 1) (bytesV (foldM (s.take (k + 1)))) := by
            rw [HT.out, bytesV_append]; exact hown1
          have HB1 := Lib.hid hb1
          clear hg1 hb1 hown1
          go_wp2_with (fail)
          go_roundw
          case rel => exact ⟨k + 1, by omega, by go_num, hown2, HB1⟩
          case measure => simp [intOf]; omega
    · obtain rfl : k = s.length := by omega
      rw [List.take_of_length_le (Nat.le_refl _)] at hown
      have hcv := conv_own (P := Tryd.prog) 37 9 5 Tryd.underlying37 Tryd.underlying5 Tryd.underlying9 hown
      clear hown
      go_wp2_with (fail)
      go_ret
      exact ⟨rfl, HB.out⟩

theorem orderP_drop (X Y : List (List UInt8)) (k : Nat) (h1 : k < X.length) (h2 : k < Y.length) : orderP (X.drop k) (Y.drop k) = if X[k] < Y[k] then -1 else if Y[k] < X[k] then 1 else orderP (X.drop (k + 1)) (Y.drop (k + 1)) := by
  rw [List.drop_eq_getElem_cons h1, List.drop_eq_getElem_cons h2]; rfl

set_option maxHeartbeats 2000000 in
theorem Order_ref (a b : List UInt8) (w : World) (ha : a.length ≤ 8796093022200) (hb : b.length ≤ 8796093022200) :
    Calls Tryd.prog 12 #[.string ⟨a.toArray⟩, .string ⟨b.toArray⟩] w (Ret w (.int .i64 (orderM a b))) := by
  have HPA := Lib.hid (Parts_ref a w ha)
  have HPB := Lib.hid (fun W => Parts_ref b W hb)
  have hla := parts_length a
  have hlb := parts_length b
  have hca := List.count_le_length (a := (47 : UInt8)) (l := a)
  have hcb := List.count_le_length (a := (47 : UInt8)) (l := b)
  have HO := Lib.hid (show orderM a b = orderP (parts a) (parts b) from rfl)
  generalize orderM a b = res at *
  generalize parts a = X at *
  generalize parts b = Y at *
  have hX : X.length ≤ 8796093022201 := by omega
  have hY : Y.length ≤ 8796093022201 := by omega
  clear hla hlb hca hcb
  go_enter Tryd.func12, Tryd.ntmps12
  go_wp2_with (fail)
  refine HPA.out.mono ?_
  rintro e w1 ⟨A, ca, rfl, hca, hma, hra, hw1, hA0⟩
  go_wp2_with (fail)
  refine (HPB.out w1).mono ?_
  rintro e w2 ⟨B, cb, rfl, hcb, hmb, hrb, hw2, hB0⟩
  have HRA := Lib.hid (hra.below hw2)
  have HRB := Lib.hid hrb
  have HB2 := Lib.hid (hw1.trans (hw2.mono hw1.size))
  clear hra hrb hw1 hw2
  go_wp2_with (fail)
  go_loopw [7] (fun t7 W => ∃ k : Nat, k ≤ X.length ∧ k ≤ Y.length ∧ t7 = .int .i64 k ∧ Hid (orderP X Y = orderP (X.drop k) (Y.drop k)) ∧ Hid (Below w2.heap.size w2 W)) (fun t7 _ => X.length - (intOf t7).toNat)
  case atStart => exact ⟨0, by omega, by omega, rfl, Lib.hid (by simp), Lib.hid (Below.refl _ _)⟩
  case round =>
    obtain ⟨k, hk, hk2, rfl, HP, HB⟩ := hrel
    have i0 : (0 : Int) ≤ k := by omega
    have hbel := HB.out
    by_cases h1 : k < X.length
    · by_cases h2 : k < Y.length
      · obtain ⟨ad, rfl, cA⟩ := (HRA.out.below hbel).str_at h1
        obtain ⟨bd, rfl, cB⟩ := (HRB.out.below hbel).str_at h2
        have hod := orderP_drop X Y k h1 h2
        generalize X[k] = x at *
        generalize Y[k] = y at *
        have i1 : (k : Int) < X.length := by omega
        have i2 : (k : Int) < Y.length := by omega
        have j1 : decide ((k : Int) < X.length) = true := by simp; omega
        have j2 : decide ((k : Int) < Y.length) = true := by simp; omega
        have j3 : decide (k < X.length) = true := by simp; omega
        have j4 : decide (k < Y.length) = true := by simp; omega
        clear hbel
        by_cases hlt : x < y
        · rw [if_pos hlt] at hod
          have HR := Lib.hid (HP.out.trans hod)
          have b1 : Op.bytesLess x y = true := by rw [bl_lt]; exact decide_eq_true hlt
          clear hod hlt
          go_wp2_with (fail)
          go_quiet (fail)
          go_wp2_with (fail)
          go_ret
          exact ⟨by rw [HO.out, HR.out]; rfl, by first | exact HB2.out.trans ((below_drewN HB.out _).mono HB2.out.size) | exact HB2.out.trans ((below_drewN (below_drewN HB.out _) _).mono HB2.out.size)⟩
        · have b1 : Op.bytesLess x y = false := by rw [bl_lt]; exact decide_eq_false hlt
          rw [if_neg hlt] at hod
          by_cases hgt : y < x
          · rw [if_pos hgt] at hod
            have HR := Lib.hid (HP.out.trans hod)
            have b2 : (x == y) = false := by simp; rintro rfl; exact hlt hgt
            clear hod hlt hgt
            go_wp2_with (fail)
            go_quiet (fail)
            go_wp2_with (fail)
            go_quiet (fail)
            go_wp2_with (fail)
            go_ret
            exact ⟨by rw [HO.out, HR.out]; rfl, by first | exact HB2.out.trans ((below_drewN HB.out _).mono HB2.out.size) | exact HB2.out.trans ((below_drewN (below_drewN HB.out _) _).mono HB2.out.size)⟩
          · rw [if_neg hgt] at hod
            have HR := Lib.hid (HP.out.trans hod)
            have b2 : (x == y) = true := by simp; exact eq_of_not_lt hlt hgt
            clear hod hlt hgt
            go_wp2_with (fail)
            go_quiet (fail)
            go_wp2_with (fail)
            go_quiet (fail)
            go_wp2_with (fail)
            go_roundw
            case rel => exact ⟨k + 1, by omega, by omega, by go_num, HR, Lib.hid (below_drewN HB.out _)⟩
            case measure => simp [intOf]; omega
      · have hke : k = Y.length := by omega
        have hd : Y.drop k = [] := List.drop_eq_nil_of_le (by omega)
        have hne : X.drop k ≠ [] := by intro e; have := congrArg List.length e; simp at this; omega
        have HR := Lib.hid (show orderP X Y = 1 by rw [HP.out, hd]; exact orderP_nil' hne)
        have j1 : decide ((k : Int) < X.length) = true := by simp; omega
        have j2 : decide ((k : Int) < Y.length) = false := by simp; omega
        have j3 : decide (k < X.length) = true := by simp; omega
        have j4 : decide (k < Y.length) = false := by simp; omega
        have j5 : decide ((X.length : Int) < Y.length) = false := by simp; omega
        have j6 : decide (X.length < Y.length) = false := by simp; omega
        have j7 : decide ((Y.length : Int) < X.length) = true := by simp; omega
        have j8 : decide (Y.length < X.length) = true := by simp; omega
        clear hbel hd hne hke
        go_wp2_with (fail)
        go_ret
        exact ⟨by rw [HO.out, HR.out]; rfl, HB2.out.trans (HB.out.mono HB2.out.size)⟩
    · have hke : k = X.length := by omega
      have hd : X.drop k = [] := List.drop_eq_nil_of_le (by omega)
      have j1 : decide ((k : Int) < X.length) = false := by simp; omega
      have j3 : decide (k < X.length) = false := by simp; omega
      by_cases h2 : X.length < Y.length
      · have hne : Y.drop k ≠ [] := by intro e; have := congrArg List.length e; simp at this; omega
        have HR := Lib.hid (show orderP X Y = -1 by rw [HP.out, hd]; exact orderP_nil hne)
        have j5 : decide ((X.length : Int) < Y.length) = true := by simp; omega
        have j6 : decide (X.length < Y.length) = true := by simp; omega
        clear hbel hd hne hke
        go_wp2_with (fail)
        go_ret
        exact ⟨by rw [HO.out, HR.out]; rfl, HB2.out.trans (HB.out.mono HB2.out.size)⟩
      · have hd2 : Y.drop k = [] := List.drop_eq_nil_of_le (by omega)
        have HR := Lib.hid (show orderP X Y = 0 by rw [HP.out, hd, hd2]; rfl)
        have j5 : decide ((X.length : Int) < Y.length) = false := by simp; omega
        have j6 : decide (X.length < Y.length) = false := by simp; omega
        have j7 : decide ((Y.length : Int) < X.length) = false := by simp; omega
        have j8 : decide (Y.length < X.length) = false := by simp; omega
        clear hbel hd hd2 hke
        go_wp2_with (fail)
        go_ret
        exact ⟨by rw [HO.out, HR.out]; rfl, HB2.out.trans (HB.out.mono HB2.out.size)⟩

theorem prefix_take {X Y : List (List UInt8)} (h : Y.take Y.length = X.take Y.length) : Y.isPrefixOf X = true := by
  rw [List.isPrefixOf_iff_prefix]
  rw [List.take_of_length_le (Nat.le_refl _)] at h
  rw [h]; exact List.take_prefix _ _
theorem prefix_not {X Y : List (List UInt8)} {k : Nat} (h1 : k < X.length) (h2 : k < Y.length) (h : X[k] ≠ Y[k]) : Y.isPrefixOf X = false := by
  rw [← Bool.not_eq_true, List.isPrefixOf_iff_prefix]
  rintro ⟨t, rfl⟩
  exact h (by rw [List.getElem_append_left h2])
theorem prefix_short {X Y : List (List UInt8)} (h : X.length < Y.length) : Y.isPrefixOf X = false := by
  rw [← Bool.not_eq_true, List.isPrefixOf_iff_prefix]
  intro hp
  have := hp.length_le
  omega

set_option maxHeartbeats 2000000 in
theorem Within_ref (p q : List UInt8) (w : World) (hp : p.length ≤ 8796093022200) (hq : q.length ≤ 8796093022200) :
    Calls Tryd.prog 14 #[.string ⟨p.toArray⟩, .string ⟨q.toArray⟩] w (Ret w (.bool (withinM p q))) := by
  rw [withinM_parts]
  have hP := Path_ref p w hp
  have hQ := fun W => Path_ref q W hq
  have HXA := Lib.hid (fun W => Parts_ref p W hp)
  have HXB := Lib.hid (fun W => Parts_ref q W hq)
  have hla := parts_length p
  have hlb := parts_length q
  have hca := List.count_le_length (a := (47 : UInt8)) (l := p)
  have hcb := List.count_le_length (a := (47 : UInt8)) (l := q)
  generalize pathOK p = b1 at *
  generalize pathOK q = b2 at *
  generalize parts p = X at *
  generalize parts q = Y at *
  have hX : X.length ≤ 8796093022201 := by omega
  have hY : Y.length ≤ 8796093022201 := by omega
  obtain ⟨b4, h4⟩ : ∃ b, q.isEmpty = b := ⟨_, rfl⟩
  rw [h4]
  have HP := Lib.hid hP
  have HQ := Lib.hid hQ
  clear hP hQ hla hlb hca hcb
  cases b1 with
  | false =>
    go_enter Tryd.func14, Tryd.ntmps14
    go_wp2_with (fail)
    refine HP.out.mono ?_
    rintro e w1 ⟨rfl, hw1⟩
    go_wp2_with (fail)
    go_ret
    exact ⟨rfl, hw1⟩
  | true =>
    cases b4 with
    | true =>
      go_enter Tryd.func14, Tryd.ntmps14
      go_wp2_with (fail)
      refine HP.out.mono ?_
      rintro e w1 ⟨rfl, hw1⟩
      go_wp2_with (fail)
      go_ret
      exact ⟨rfl, hw1⟩
    | false =>
      cases b2 with
      | false =>
        go_enter Tryd.func14, Tryd.ntmps14
        go_wp2_with (fail)
        refine HP.out.mono ?_
        rintro e w1 ⟨rfl, hw1⟩
        go_wp2_with (fail)
        refine (HQ.out _).mono ?_
        rintro e w2 ⟨rfl, hw2⟩
        go_wp2_with (fail)
        go_ret
        exact ⟨rfl, hw1.trans (hw2.mono hw1.size)⟩
      | true =>
        by_cases hlen : X.length < Y.length
        · have HS := Lib.hid (prefix_short hlen)
          have j1 : decide ((X.length : Int) < Y.length) = true := by simp; omega
          have j2 : decide (X.length < Y.length) = true := by simp; omega
          clear hlen
          go_enter Tryd.func14, Tryd.ntmps14
          go_wp2_with (fail)
          refine HP.out.mono ?_
          rintro e w1 ⟨rfl, hw1⟩
          go_wp2_with (fail)
          refine (HQ.out _).mono ?_
          rintro e w2 ⟨rfl, hw2⟩
          have hB2 := hw1.trans (hw2.mono hw1.size)
          clear hw1 hw2
          go_wp2_with (fail)
          refine (HXA.out w2).mono ?_
          rintro e w3 ⟨A, ca, rfl, hca, hma, hra, hw3, hA0⟩
          have hB3 := hB2.trans (hw3.mono hB2.size)
          clear hw3 hB2
          go_wp2_with (fail)
          refine (HXB.out w3).mono ?_
          rintro e w4 ⟨B, cb, rfl, hcb, hmb, hrb, hw4, hB0⟩
          have hB4 := hB3.trans (hw4.mono hB3.size)
          clear hw4 hB3
          go_wp2_with (fail)
          go_ret
          exact ⟨by rw [HS.out]; rfl, hB4⟩
        · have j1 : decide ((X.length : Int) < Y.length) = false := by simp; omega
          have j2 : decide (X.length < Y.length) = false := by simp; omega
          go_enter Tryd.func14, Tryd.ntmps14
          go_wp2_with (fail)
          refine HP.out.mono ?_
          rintro e w1 ⟨rfl, hw1⟩
          go_wp2_with (fail)
          refine (HQ.out _).mono ?_
          rintro e w2 ⟨rfl, hw2⟩
          have hB2 := hw1.trans (hw2.mono hw1.size)
          clear hw1 hw2
          go_wp2_with (fail)
          refine (HXA.out w2).mono ?_
          rintro e w3 ⟨A, ca, rfl, hca, hma, hra, hw3, hA0⟩
          have hB3 := hB2.trans (hw3.mono hB2.size)
          clear hw3 hB2
          go_wp2_with (fail)
          refine (HXB.out w3).mono ?_
          rintro e w4 ⟨B, cb, rfl, hcb, hmb, hrb, hw4, hB0⟩
          have hB4 := hB3.trans (hw4.mono hB3.size)
          have HRA := Lib.hid (hra.below hw4)
          have HRB := Lib.hid hrb
          clear hw4 hB3 hra hrb
          go_wp2_with (fail)
          go_loopw [7] (fun t7 W => ∃ k : Nat, k ≤ Y.length ∧ t7 = .int .i64 k ∧ Hid (Y.take k = X.take k) ∧ Hid (Below w4.heap.size w4 W)) (fun t7 _ => Y.length - (intOf t7).toNat)
          case atStart => exact ⟨0, by omega, rfl, Lib.hid (by simp), Lib.hid (Below.refl _ _)⟩
          case round =>
            obtain ⟨k, hk, rfl, HT, HB⟩ := hrel
            have i0 : (0 : Int) ≤ k := by omega
            have hbel := HB.out
            by_cases h2 : k < Y.length
            · obtain ⟨ad, rfl, cA⟩ := (HRA.out.below hbel).str_at (show k < X.length by omega)
              obtain ⟨bd, rfl, cB⟩ := (HRB.out.below hbel).str_at h2
              have hno := prefix_not (X := X) (Y := Y) (k := k) (by omega) h2
              have hnx := take_next h2 (show k < X.length by omega) HT.out
              generalize X[k]'(by omega) = x at *
              generalize Y[k] = y at *
              have i1 : (k : Int) < X.length := by omega
              have i2 : (k : Int) < Y.length := by omega
              clear hbel
              by_cases he : x = y
              · have b1 : (x == y) = true := by simpa using he
                have HNX := Lib.hid (hnx he.symm)
                clear hno hnx he
                go_wp2_with (fail)
                go_quiet (fail)
                go_wp2_with (fail)
                go_roundw
                case rel => exact ⟨k + 1, by omega, by go_num, HNX, Lib.hid (below_drewN HB.out _)⟩
                case measure => simp [intOf]; omega
              · have b1 : (x == y) = false := by simpa using he
                have HNO := Lib.hid (hno he)
                clear hno hnx he
                go_wp2_with (fail)
                go_quiet (fail)
                go_wp2_with (fail)
                go_ret
                exact ⟨by rw [HNO.out]; rfl, hB4.trans ((below_drewN HB.out _).mono hB4.size)⟩
            · obtain rfl : k = Y.length := by omega
              have HY := Lib.hid (prefix_take HT.out)
              clear hbel
              go_wp2_with (fail)
              go_ret
              exact ⟨by rw [HY.out]; rfl, hB4.trans (HB.out.mono hB4.size)⟩
end Go.Proofs.YtpfpjinkifggdaaDoor
