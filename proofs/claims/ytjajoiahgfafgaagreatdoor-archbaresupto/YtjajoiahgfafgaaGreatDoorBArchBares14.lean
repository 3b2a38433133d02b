/- Texts joined: Fold, NameRef2, TreeR, TreeR2, ArchR4. -/
import Derived.Test.YtjajoiahgfafgaaGreatDoorBArchBares6
import Derived.Deep.QuietTactic
import Derived.BigQuiet
import Derived.Test.YtjajoiahgfafgaaGreatDoorBArchBares13
import Derived.Test.YtjajoiahgfafgaaGreatDoorBArchBares7
import Derived.Test.YtjajoiahgfafgaaGreatDoorBArchBares4
set_option linter.unusedSimpArgs false
set_option linter.unusedVariables false

/- name.Fold, name.Clash. -/
section
namespace Go.Proofs.YtjajoiahgfafgaaGreatDoor
open Go.RowKit Plain

/-- a text k bytes of which have been made small -/
def foldAt (s : List UInt8) (k : Nat) : List UInt8 := (s.take k).map lowB ++ s.drop k
theorem foldAt_length (s : List UInt8) (k : Nat) : (foldAt s k).length = s.length := by unfold foldAt; simp; omega
theorem foldAt_zero (s : List UInt8) : foldAt s 0 = s := by simp [foldAt]
theorem foldAt_end (s : List UInt8) : foldAt s s.length = foldM s := by simp [foldAt, foldM]
theorem foldAt_get (s : List UInt8) (k : Nat) (h : k < s.length) : (foldAt s k)[k]'(by rw [foldAt_length]; exact h) = s[k] := by
  unfold foldAt
  rw [List.getElem_append_right (by simp; omega)]
  simp [Nat.min_eq_left (Nat.le_of_lt h)]
theorem foldAt_step (s : List UInt8) (k : Nat) (h : k < s.length) : foldAt s (k + 1) = (foldAt s k).set k (lowB s[k]) := by
  unfold foldAt
  rw [List.take_succ_eq_append_getElem h, List.map_append, List.append_assoc]
  rw [List.set_append_right _ _ (by simp; omega)]
  have e : k - (List.map lowB (List.take k s)).length = 0 := by simp; omega
  rw [e, List.drop_eq_getElem_cons h]
  rfl
theorem foldAt_same (s : List UInt8) (k : Nat) (h : k < s.length) (e : lowB s[k] = s[k]) : foldAt s (k + 1) = foldAt s k := by
  rw [foldAt_step s k h, e]
  conv => lhs; rw [← foldAt_get s k h]
  exact List.set_getElem_self _
theorem lowB_toNat (x : UInt8) (h1 : 65 ≤ x.toNat) (h2 : x.toNat ≤ 90) : lowB x = UInt8.ofNat (x.toNat + 32) := by
  unfold lowB
  rw [if_pos ⟨UInt8.le_iff_toNat_le.2 (by simpa using h1), UInt8.le_iff_toNat_le.2 (by simpa using h2)⟩]
  apply UInt8.toNat.inj
  simp [UInt8.toNat_add]
theorem lowB_out (x : UInt8) (h : x.toNat < 65 ∨ 90 < x.toNat) : lowB x = x := by
  unfold lowB
  rw [if_neg]
  rintro ⟨h1, h2⟩
  have h1 := UInt8.le_iff_toNat_le.1 h1
  have h2 := UInt8.le_iff_toNat_le.1 h2
  simp at h1 h2
  omega
theorem frozen_mark {W : World} {b cap j : Nat} {C : Array Value} {e : TypeId} (hb : W.heap[b]? = some (.cells C e (cap, cap + 1))) (h : j < cap) : W.frozen? ⟨b, j, none⟩ = false := by
  unfold World.frozen?
  rw [hb]
  simp; omega


/-- do two texts differ in their letters' size alone? -/
def clashB (p q : List UInt8) : Bool := !(p == q) && foldM p == foldM q


/-- the first that clashes with p; -1: none -/
def FirstOut (p : List UInt8) (l : List (List UInt8)) (w : World) (e : Ending) (w' : World) : Prop :=
  ∃ i : Int, e = .returned (.int .i64 i) ∧ ((∃ k : Nat, i = k ∧ k < l.length ∧ clashB p (l.getD k []) = true) ∨ (i = -1 ∧ ∀ k, k < l.length → clashB p (l.getD k []) = false)) ∧ Below w.heap.size w w'


def ClashP (l : List (List UInt8)) (i j : Int) : Prop :=
  (∃ i' j' : Nat, i = i' ∧ j = j' ∧ i' < j' ∧ j' < l.length ∧ clashB (l.getD j' []) (l.getD i' []) = true) ∨ (i = -1 ∧ j = -1 ∧ ∀ j' i', i' < j' → j' < l.length → clashB (l.getD j' []) (l.getD i' []) = false)
def ClashOut (l : List (List UInt8)) (w : World) (e : Ending) (w' : World) : Prop :=
  ∃ i j : Int, e = .returned (.tuple #[.int .i64 i, .int .i64 j]) ∧ ClashP l i j ∧ Below w.heap.size w w'

end Go.Proofs.YtjajoiahgfafgaaGreatDoor
end

/- hawserref01: Split, Parent, Base, Fold, Order, Within. -/
section
namespace Go.Proofs.YtjajoiahgfafgaaGreatDoor
open Go.RowKit Plain

theorem foldM_take (s : List UInt8) (k : Nat) (h : k < s.length) : foldM (s.take (k + 1)) = foldM (s.take k) ++ [lowB s[k]] := by
  unfold foldM; rw [List.take_succ_eq_append_getElem h, List.map_append]; rfl
theorem info_byte01 : (Tryz.prog.info? 5).map (fun i => (i.zero, i.size, i.bytes)) = some (some (.int .u8 0), 1, 1) := by kernel_rfl


theorem orderP_drop (X Y : List (List UInt8)) (k : Nat) (h1 : k < X.length) (h2 : k < Y.length) : orderP (X.drop k) (Y.drop k) = if X[k] < Y[k] then -1 else if Y[k] < X[k] then 1 else orderP (X.drop (k + 1)) (Y.drop (k + 1)) := by
  rw [List.drop_eq_getElem_cons h1, List.drop_eq_getElem_cons h2]; rfl

set_option maxHeartbeats 2000000 in
theorem Order_ref (a b : List UInt8) (w : World) (ha : a.length ≤ 8796093022200) (hb : b.length ≤ 8796093022200) :
    Calls Tryz.prog 83 #[.string ⟨a.toArray⟩, .string ⟨b.toArray⟩] w (Ret w (.int .i64 (orderM a b))) := by
  have HPA := Lib.hid (Parts_ref a w ha)
  have HPB := Lib.hid (fun W => Parts_ref b W hb)
  have hla := parts_length a
  have hlb := parts_length b
  have hca := List.count_le_length (a := (47 : UInt8)) (l := a)
  have hcb := List.count_le_length (a := (47 : UInt8)) (l := b)
  have HO := Lib.hid (show orderM a b = orderP (parts a) (parts b) from rfl)
  generalize orderM a b = res at *
  generalize parts a = X at *
  generalize parts b = Y at *
  have hX : X.length ≤ 8796093022201 := by omega
  have hY : Y.length ≤ 8796093022201 := by omega
  clear hla hlb hca hcb
  go_enter Tryz.func83, Tryz.ntmps83
  go_wp2_with (fail)
  refine HPA.out.mono ?_
  rintro e w1 ⟨A, ca, rfl, hca, hma, hra, hw1, hA0⟩
  go_wp2_with (fail)
  refine (HPB.out w1).mono ?_
  rintro e w2 ⟨B, cb, rfl, hcb, hmb, hrb, hw2, hB0⟩
  have HRA := Lib.hid (hra.below hw2)
  have HRB := Lib.hid hrb
  have HB2 := Lib.hid (hw1.trans (hw2.mono hw1.size))
  clear hra hrb hw1 hw2
  go_wp2_with (fail)
  go_loopw [7] (fun t7 W => ∃ k : Nat, k ≤ X.length ∧ k ≤ Y.length ∧ t7 = .int .i64 k ∧ Hid (orderP X Y = orderP (X.drop k) (Y.drop k)) ∧ Hid (Below w2.heap.size w2 W)) (fun t7 _ => X.length - (intOf t7).toNat)
  case atStart => exact ⟨0, by omega, by omega, rfl, Lib.hid (by simp), Lib.hid (Below.refl _ _)⟩
  case round =>
    obtain ⟨k, hk, hk2, rfl, HP, HB⟩ := hrel
    have i0 : (0 : Int) ≤ k := by omega
    have hbel := HB.out
    by_cases h1 : k < X.length
    · by_cases h2 : k < Y.length
      · obtain ⟨ad, rfl, cA⟩ := (HRA.out.below hbel).str_at h1
        obtain ⟨bd, rfl, cB⟩ := (HRB.out.below hbel).str_at h2
        have hod := orderP_drop X Y k h1 h2
        generalize X[k] = x at *
        generalize Y[k] = y at *
        have i1 : (k : Int) < X.length := by omega
        have i2 : (k : Int) < Y.length := by omega
        have j1 : decide ((k : Int) < X.length) = true := by simp; omega
        have j2 : decide ((k : Int) < Y.length) = true := by simp; omega
        have j3 : decide (k < X.length) = true := by simp; omega
        have j4 : decide (k < Y.length) = true := by simp; omega
        clear hbel
        by_cases hlt : x < y
        · rw [if_pos hlt] at hod
          have HR := Lib.hid (HP.out.trans hod)
          have b1 : Op.bytesLess x y = true := by rw [bl_lt]; exact decide_eq_true hlt
          clear hod hlt
          go_wp2_with (fail)
          go_quiet (fail)
          go_wp2_with (fail)
          go_ret
          exact ⟨by rw [HO.out, HR.out]; rfl, by first | exact HB2.out.trans ((below_drewN HB.out _).mono HB2.out.size) | exact HB2.out.trans ((below_drewN (below_drewN HB.out _) _).mono HB2.out.size)⟩
        · have b1 : Op.bytesLess x y = false := by rw [bl_lt]; exact decide_eq_false hlt
          rw [if_neg hlt] at hod
          by_cases hgt : y < x
          · rw [if_pos hgt] at hod
            have HR := Lib.hid (HP.out.trans hod)
            have b2 : (x == y) = false := by simp; rintro rfl; exact hlt hgt
            clear hod hlt hgt
            go_wp2_with (fail)
            go_quiet (fail)
            go_wp2_with (fail)
            go_quiet (fail)
            go_wp2_with (fail)
            go_ret
            exact ⟨by rw [HO.out, HR.out]; rfl, by first | exact HB2.out.trans ((below_drewN HB.out _).mono HB2.out.size) | exact HB2.out.trans ((below_drewN (below_drewN HB.out _) _).mono HB2.out.size)⟩
          · rw [if_neg hgt] at hod
            have HR := Lib.hid (HP.out.trans hod)
            have b2 : (x == y) = true := by simp; exact eq_of_not_lt hlt hgt
            clear hod hlt hgt
            go_wp2_with (fail)
            go_quiet (fail)
            go_wp2_with (fail)
            go_quiet (fail)
            go_wp2_with (fail)
            go_roundw
            case rel => exact ⟨k + 1, by omega, by omega, by go_num, HR, Lib.hid (below_drewN HB.out _)⟩
            case measure => simp [intOf]; omega
      · have hke : k = Y.length := by omega
        have hd : Y.drop k = [] := List.drop_eq_nil_of_le (by omega)
        have hne : X.drop k ≠ [] := by intro e; have := congrArg List.length e; simp at this; omega
        have HR := Lib.hid (show orderP X Y = 1 by rw [HP.out, hd]; exact orderP_nil' hne)
        have j1 : decide ((k : Int) < X.length) = true := by simp; omega
        have j2 : decide ((k : Int) < Y.length) = false := by simp; omega
        have j3 : decide (k < X.length) = true := by simp; omega
        have j4 : decide (k < Y.length) = false := by simp; omega
        have j5 : decide ((X.length : Int) < Y.length) = false := by simp; omega
        have j6 : decide (X.length < Y.length) = false := by simp; omega
        have j7 : decide ((Y.length : Int) < X.length) = true := by simp; omega
        have j8 : decide (Y.length < X.length) = true := by simp; omega
        clear hbel hd hne hke
        go_wp2_with (fail)
        go_ret
        exact ⟨by rw [HO.out, HR.out]; rfl, HB2.out.trans (HB.out.mono HB2.out.size)⟩
    · have hke : k = X.length := by omega
      have hd : X.drop k = [] := List.drop_eq_nil_of_le (by omega)
      have j1 : decide ((k : Int) < X.length) = false := by simp; omega
      have j3 : decide (k < X.length) = false := by simp; omega
      by_cases h2 : X.length < Y.length
      · have hne : Y.drop k ≠ [] := by intro e; have := congrArg List.length e; simp at this; omega
        have HR := Lib.hid (show orderP X Y = -1 by rw [HP.out, hd]; exact orderP_nil hne)
        have j5 : decide ((X.length : Int) < Y.length) = true := by simp; omega
        have j6 : decide (X.length < Y.length) = true := by simp; omega
        clear hbel hd hne hke
        go_wp2_with (fail)
        go_ret
        exact ⟨by rw [HO.out, HR.out]; rfl, HB2.out.trans (HB.out.mono HB2.out.size)⟩
      · have hd2 : Y.drop k = [] := List.drop_eq_nil_of_le (by omega)
        have HR := Lib.hid (show orderP X Y = 0 by rw [HP.out, hd, hd2]; rfl)
        have j5 : decide ((X.length : Int) < Y.length) = false := by simp; omega
        have j6 : decide (X.length < Y.length) = false := by simp; omega
        have j7 : decide ((Y.length : Int) < X.length) = false := by simp; omega
        have j8 : decide (Y.length < X.length) = false := by simp; omega
        clear hbel hd hd2 hke
        go_wp2_with (fail)
        go_ret
        exact ⟨by rw [HO.out, HR.out]; rfl, HB2.out.trans (HB.out.mono HB2.out.size)⟩

theorem prefix_take {X Y : List (List UInt8)} (h : Y.take Y.length = X.take Y.length) : Y.isPrefixOf X = true := by
  rw [List.isPrefixOf_iff_prefix]
  rw [List.take_of_length_le (Nat.le_refl _)] at h
  rw [h]; exact List.take_prefix _ _
theorem prefix_not {X Y : List (List UInt8)} {k : Nat} (h1 : k < X.length) (h2 : k < Y.length) (h : X[k] ≠ Y[k]) : Y.isPrefixOf X = false := by
  rw [← Bool.not_eq_true, List.isPrefixOf_iff_prefix]
  rintro ⟨t, rfl⟩
  exact h (by rw [List.getElem_append_left h2])
theorem prefix_short {X Y : List (List UInt8)} (h : X.length < Y.length) : Y.isPrefixOf X = false := by
  rw [← Bool.not_eq_true, List.isPrefixOf_iff_prefix]
  intro hp
  have := hp.length_le
  omega

end Go.Proofs.YtjajoiahgfafgaaGreatDoor
end

/- The document's tree: right, find, dir, Check. -/
section
set_option linter.unusedVariables false
namespace Go.Proofs.YtjajoiahgfafgaaGreatDoor
open Go.RowKit Plain

namespace Plain
theorem findN_first {t : List Nd} {s : List UInt8} {k : Nat} (hk : k < t.length) (h1 : ∀ j, j < k → (t.getD j default).path ≠ s) (h2 : (t.getD k default).path = s) : findN t s = some (t.getD k default) := by
  unfold findN
  rw [List.getD_eq_getElem?_getD, List.getElem?_eq_getElem hk, Option.getD_some] at h2 ⊢
  refine List.find?_eq_some_iff_getElem.2 ⟨by simpa using h2, k, hk, rfl, fun j hj => ?_⟩
  have := h1 j hj
  rw [List.getD_eq_getElem?_getD, List.getElem?_eq_getElem (by omega), Option.getD_some] at this
  simpa using this
theorem contains_at {d : List UInt8} {i : Nat} (h : i < d.length) : (d.drop i).contains 0 = ((d[i] == 0) || (d.drop (i + 1)).contains 0) := by
  rw [List.drop_eq_getElem_cons h, List.contains_cons, show ((0 : UInt8) == d[i]) = (d[i] == 0) from Bool.beq_comm]
end Plain

set_option maxHeartbeats 2000000 in
set_option maxRecDepth 100000 in
theorem rright_any (n : Nd) (w : World) (hd : n.data.length ≤ 9223372036854775807) : Calls Tryz.prog 80 #[.agg (ndV n).toArray] w (Ret w (.bool (rightN n))) := by
  obtain ⟨p, k, d, m⟩ := n
  unfold rightN ndV
  simp only at hd ⊢
  obtain ⟨w1, hw1⟩ : ∃ w1, w.alloc (.cells #[.string ⟨p.toArray⟩, .int .i64 k, .string ⟨d.toArray⟩, .int .i64 m] 41) = w1 := ⟨_, rfl⟩
  have HW1 := Lib.hid hw1
  have HB1 := Lib.hid (show Below w.heap.size w w1 by rw [← hw1]; exact (Below.refl w.heap.size w).alloc (Nat.le_refl _) _)
  have hr := (show w1.heap[w.heap.size]? = some (.cells #[.string ⟨p.toArray⟩, .int .i64 k, .string ⟨d.toArray⟩, .int .i64 m] 41 (0, 0)) by rw [← hw1]; exact heap_alloc_new _ _)
  have c1 := cell_of_row w1 _ 1 _ _ _ hr
  have c2 := cell_of_row w1 _ 2 _ _ _ hr
  have c3 := cell_of_row w1 _ 3 _ _ _ hr
  clear hw1 hr
  by_cases h1 : k = 1
  · subst h1
    go_enter Tryz.func80, Tryz.ntmps80
    go_upto_region 1 with (fail)
    rw [HW1.out]
    go_wp2_with (fail)
    all_goals
      go_ret
      exact ⟨by first | (simp_all; done) | (simp; omega) | (simp_all; omega), HB1.out⟩
  · by_cases h2 : k = 2
    · subst h2
      cases d with
      | nil =>
        go_enter Tryz.func80, Tryz.ntmps80
        go_upto_region 1 with (fail)
        rw [HW1.out]
        go_wp2_with (fail)
        all_goals
          go_ret
          exact ⟨by first | (simp_all; done) | (simp; omega) | (simp_all; omega), HB1.out⟩
      | cons x r =>
        go_enter Tryz.func80, Tryz.ntmps80
        go_upto_region 1 with (fail)
        rw [HW1.out]
        go_wp2_with (fail)
        all_goals
          go_ret
          exact ⟨by first | (simp_all; done) | (simp; omega) | (simp_all; omega), HB1.out⟩
    · by_cases h3 : k = 3
      · subst h3
        rw [if_neg (by decide), if_neg (by decide), if_pos rfl]
        obtain ⟨b0, hb0⟩ : ∃ b, d.isEmpty = b := ⟨_, rfl⟩
        obtain ⟨b1, hb1⟩ : ∃ b, d.contains 0 = b := ⟨_, rfl⟩
        rw [hb0, hb1]
        have HEM : Hid (decide ((1 : Int) ≤ (d.length : Int)) = !b0) := Lib.hid (by rw [← hb0]; cases d with | nil => rfl | cons x r => simp; omega)
        have HCN : Hid ((d.drop 0).contains 0 = b1) := Lib.hid hb1
        have HLE : Hid (decide (d.length ≤ 400) = decide ((d.length : Int) ≤ 400)) := Lib.hid (by rw [decide_eq_decide]; omega)
        rw [HLE.out]
        clear h1 h2 hb0 hb1
        go_enter Tryz.func80, Tryz.ntmps80
        go_upto_region 1 with (fail)
        rw [HW1.out]
        go_wp2_with (fail)
        go_loopw [3] (fun t3 W => ∃ i : Nat, i ≤ d.length ∧ t3 = .int .i64 i ∧ Hid ((d.drop i).contains 0 = b1) ∧ W = w1) (fun t3 _ => d.length - (intOf t3).toNat)
        case atStart => exact ⟨0, by omega, rfl, HCN, rfl⟩
        case round =>
          clear HCN
          obtain ⟨i, hi, rfl, HE, rfl⟩ := hrel
          have i0 : (0 : Int) ≤ i := by omega
          by_cases hlt : i < d.length
          · have i1 : (i : Int) < d.length := by omega
            have e1 : IntKind.i64.wrap ((i : Int) + 1) = (i : Int) + 1 := IntWalk.i64_in _ (by omega)
            have hat := contains_at hlt
            rw [HE.out] at hat
            have hg : (ByteArray.mk d.toArray)[i]'(by simpa [ByteArray.size] using hlt) = d[i] := rfl
            generalize d[i] = x at *
            by_cases hx : x = 0
            · have hB : ((x.toNat : Int) == 0) = true := by rw [hx]; rfl
              have HRF := Lib.hid (show b1 = true by rw [hat, hx]; rfl)
              clear hat hx
              go_wp2_with (fail)
              go_ret
              exact ⟨by rw [HRF.out]; simp, HB1.out⟩
            · have hB : ((x.toNat : Int) == 0) = false := by simp; exact fun h => hx (UInt8.toNat.inj (by simpa using h))
              have HRF := Lib.hid (show (d.drop (i + 1)).contains 0 = b1 by rw [hat, show (x == 0) = false by simpa using hx, Bool.false_or])
              clear hat hx
              go_wp2_with (fail)
              go_roundw
              case rel => exact ⟨i + 1, by omega, by go_num, HRF, by first | trivial | rfl⟩
              case measure => simp [intOf]; omega
          · obtain rfl : i = d.length := by omega
            have i1 : decide ((d.length : Int) < (d.length : Int)) = false := by rw [decide_eq_false_iff_not]; omega
            have HRF := Lib.hid (show b1 = false by rw [← HE.out]; simp)
            have hem := HEM.out
            cases b0 with
            | true =>
              simp only [Bool.not_true] at hem
              go_wp2_with (fail)
              go_ret
              exact ⟨by simp, HB1.out⟩
            | false =>
              simp only [Bool.not_false] at hem
              cases h4 : decide ((d.length : Int) ≤ 400) with
              | true =>
                go_wp2_with (fail)
                go_ret
                exact ⟨by rw [HRF.out, h4]; first | rfl | simp, HB1.out⟩
              | false =>
                go_wp2_with (fail)
                go_ret
                exact ⟨by rw [HRF.out, h4]; first | rfl | simp, HB1.out⟩
      · rw [if_neg h1, if_neg h2, if_neg h3]
        go_enter Tryz.func80, Tryz.ntmps80
        go_upto_region 1 with (fail)
        rw [HW1.out]
        go_wp2_with (fail)
        all_goals
          go_ret
          exact ⟨by first | (simp_all; done) | (simp; omega) | (simp_all; omega), HB1.out⟩

set_option maxHeartbeats 1000000 in
set_option maxRecDepth 100000 in
theorem rfind_any (t : List Nd) (A : Option Addr) (c : Nat) (s : List UInt8) (w : World) (hR : IsRows w 4 A (t.map ndV)) (hl : t.length ≤ 9223372036854775807) :
    Calls Tryz.prog 107 #[.slice A t.length c, .string ⟨s.toArray⟩] w fun e w' => ∃ r : Int, e = .returned (.int .i64 r) ∧ ((r = -1 ∧ findN t s = none) ∨ ∃ k : Nat, r = k ∧ k < t.length ∧ findN t s = some (t.getD k default)) ∧ w' = w := by
  have HR := Lib.hid hR
  clear hR
  go_enter Tryz.func107, Tryz.ntmps107
  go_wp2_with (fail)
  go_loopw [5] (fun t5 W => ∃ i : Nat, i ≤ t.length ∧ t5 = .int .i64 i ∧ Hid (∀ j, j < i → (t.getD j default).path ≠ s) ∧ W = w) (fun t5 _ => t.length - (intOf t5).toNat)
  case atStart => exact ⟨0, by omega, rfl, Lib.hid (fun j h => by omega), rfl⟩
  case round =>
    obtain ⟨i, hi, rfl, HN, rfl⟩ := hrel
    have i0 : (0 : Int) ≤ i := by omega
    by_cases hlt : i < t.length
    · have i1 : (i : Int) < t.length := by omega
      have e1 : IntKind.i64.wrap ((i : Int) + 1) = (i : Int) + 1 := IntWalk.i64_in _ (by omega)
      obtain ⟨ad, rfl, c0, c1, c2, c3⟩ := node_cells HR.out hlt
      have HF := Lib.hid (fun h => findN_first (s := s) hlt HN.out h)
      have HNX : Hid ((t.getD i default).path ≠ s → ∀ j, j < i + 1 → (t.getD j default).path ≠ s) := Lib.hid (fun h j hj => by
        by_cases e : j = i
        · rw [e]; exact h
        · exact HN.out j (by omega))
      clear c1 c2 c3
      obtain ⟨q, hq⟩ : ∃ q, (t.getD i default).path = q := ⟨_, rfl⟩
      rw [hq] at c0 HF HNX
      cases hqs : (q == s) with
      | true =>
        have HR2 := Lib.hid (HF.out (by simpa using hqs))
        clear hq
        go_wp2_with (fail)
        go_ret
        exact ⟨_, rfl, .inr ⟨i, rfl, hlt, HR2.out⟩, rfl⟩
      | false =>
        have HR2 := Lib.hid (HNX.out (by simpa using hqs))
        clear hq
        go_wp2_with (fail)
        go_roundw
        case rel => exact ⟨i + 1, by omega, by go_num, HR2, by first | trivial | rfl⟩
        case measure => simp [intOf]; omega
    · obtain rfl : i = t.length := by omega
      have i1 : decide ((t.length : Int) < (t.length : Int)) = false := by rw [decide_eq_false_iff_not]; omega
      go_wp2_with (fail)
      go_ret
      exact ⟨_, rfl, .inl ⟨rfl, findN_none.2 HN.out⟩, rfl⟩

set_option maxHeartbeats 1000000 in
set_option maxRecDepth 100000 in
theorem rdir_any (t : List Nd) (A : Option Addr) (c : Nat) (s : List UInt8) (w : World) (hR : IsRows w 4 A (t.map ndV)) (hl : t.length ≤ 9223372036854775807) :
    Calls Tryz.prog 81 #[.slice A t.length c, .string ⟨s.toArray⟩] w (Ret w (.bool (dirN t s))) := by
  have HF := Lib.hid (rfind_any t A c s w hR hl)
  have HR := Lib.hid hR
  clear hR
  cases s with
  | nil =>
    show Calls _ _ _ w (Ret w (.bool true))
    clear HF
    go_enter Tryz.func81, Tryz.ntmps81
    go_wp2_with (fail)
    go_ret
    exact ⟨rfl, Below.refl _ _⟩
  | cons x q =>
    have HD : Hid (dirN t (x :: q) = (match findN t (x :: q) with | some n => n.kind == 2 | none => false)) := Lib.hid rfl
    generalize dirN t (x :: q) = res at *
    go_enter Tryz.func81, Tryz.ntmps81
    go_wp2_with (fail)
    refine HF.out.mono ?_
    rintro e w1 ⟨r, rfl, h, rfl⟩
    rcases h with ⟨rfl, hn⟩ | ⟨k, rfl, hk, hn⟩
    · have HRF := Lib.hid (show res = false by rw [HD.out, hn])
      clear hn
      go_wp2_with (fail)
      go_ret
      exact ⟨by rw [HRF.out]; rfl, Below.refl _ _⟩
    · have HRF := Lib.hid (show res = ((t.getD k default).kind == 2) by rw [HD.out, hn])
      obtain ⟨ad, rfl, c0, c1, c2, c3⟩ := node_cells HR.out hk
      clear c0 c2 c3 hn HD HF
      have k0 : (0 : Int) ≤ k := by omega
      have k1 : (k : Int) < t.length := by omega
      generalize (t.getD k default) = nd at *
      go_wp2_with (fail)
      go_ret
      exact ⟨by rw [HRF.out]; first | rfl | simp, Below.refl _ _⟩
end Go.Proofs.YtjajoiahgfafgaaGreatDoor
end

/- The document's Check of a tree. -/
section
set_option linter.unusedVariables false
namespace Go.Proofs.YtjajoiahgfafgaaGreatDoor
open Go.RowKit Plain

set_option maxHeartbeats 4000000 in
set_option maxRecDepth 100000 in
theorem rcheck_any (t : List Nd) (A : Option Addr) (c : Nat) (w : World) (hR : IsRows w 4 A (t.map ndV)) (hc : t.length ≤ c) (hlen : t.length ≤ 9223372036854775807) (hp : ∀ n ∈ t, n.path.length ≤ 8796093022200 ∧ n.data.length ≤ 9223372036854775807) :
    Calls Tryz.prog 48 #[.slice A t.length c] w (Ret w (.int .i64 (okE (treeOK t)))) := by
  by_cases hbig : 1000 < t.length
  · have hb : decide ((1000 : Int) < (t.length : Int)) = true := by rw [decide_eq_true_eq]; omega
    have HE := Lib.hid (show treeOK t = false from treeOK_long hbig)
    rw [HE.out]
    clear hbig
    go_enter Tryz.func48, Tryz.ntmps48
    go_wp2_with (fail)
    go_ret
    exact ⟨rfl, Below.refl _ _⟩
  have hsm : t.length ≤ 1000 := by omega
  have hb : decide ((1000 : Int) < (t.length : Int)) = false := by rw [decide_eq_false_iff_not]; omega
  have HRES : Hid (restOK (fun i => nodeOK t t i) 0 t.length = treeOK t) := Lib.hid (treeOK_ref hsm).symm
  generalize treeOK t = res at *
  have HR := Lib.hid (fun W (h : Below w.heap.size w W) => hR.below h)
  have HDIR := Lib.hid (fun s W (h : Below w.heap.size w W) => rdir_any t A c s W (hR.below h) hlen)
  have HP := Lib.hid hp
  clear hR hp
  go_enter Tryz.func48, Tryz.ntmps48
  go_wp2_with (fail)
  go_loopw [3] (fun t3 W => ∃ (i : Nat), i ≤ t.length ∧ t3 = .int .i64 i ∧ Hid (restOK (fun i => nodeOK t t i) i t.length = res) ∧ Hid (Below w.heap.size w W)) (fun t3 _ => t.length - (intOf t3).toNat)
  case atStart => exact ⟨0, by omega, rfl, HRES, Lib.hid (Below.refl _ _)⟩
  case round =>
    clear HRES
    obtain ⟨i, hi, rfl, HE, HB⟩ := hrel
    have i0 : (0 : Int) ≤ i := by omega
    by_cases hlt : i < t.length
    · have i1 : (i : Int) < t.length := by omega
      have e1 : IntKind.i64.wrap ((i : Int) + 1) = (i : Int) + 1 := IntWalk.i64_in _ (by omega)
      obtain ⟨ad, rfl, c0, c1, c2, c3⟩ := node_cells (HR.out _ HB.out) hlt
      have hpl := HP.out _ (mem_getD hlt)
      have hat := restOK_at (f := fun i => nodeOK t t i) hlt
      rw [HE.out] at hat
      have HN : Hid (nodeOK t t i = (pathOK (t.getD i default).path && rightN (t.getD i default) && beforeN t i && dirN t (parentM (t.getD i default).path))) := Lib.hid rfl
      have HBN : Hid (∀ k, i = k + 1 → beforeN t i = decide (orderM (t.getD k default).path (t.getD i default).path < 0)) := Lib.hid (fun k e => by subst e; rfl)
      obtain ⟨nd, HND⟩ : ∃ nd : Nd, Hid (nd = t.getD i default) := ⟨_, Lib.hid rfl⟩
      have HNR := Lib.hid (fun W (h : Below w.heap.size w W) => (node_cells (HR.out _ h) hlt))
      rw [← HND.out] at HN hpl c0 c1 c2 c3 HBN HNR
      have HPL := Lib.hid hpl
      have HAT := Lib.hid hat
      have HRIGHT := Lib.hid (fun W => rright_any nd W HPL.out.2)
      have HPATH := Lib.hid (fun W => Path_ref nd.path W HPL.out.1)
      have HPAR := Lib.hid (fun W => Parent_ref nd.path W HPL.out.1)
      clear hat hpl
      cases hpa : pathOK nd.path with
      | false =>
        rw [hpa] at HPATH
        have HRF := Lib.hid (show res = false by rw [HAT.out, HN.out, hpa]; rfl)
        clear hpa
        go_wp2_with (fail)
        refine (HPATH.out _).mono ?_
        rintro e w1 ⟨rfl, hw1⟩
        go_wp2_with (fail)
        go_ret
        exact ⟨by rw [HRF.out]; rfl, HB.out.trans (hw1.mono HB.out.size)⟩
      | true =>
      rw [hpa] at HPATH
      rw [hpa, Bool.true_and] at HN
      clear hpa
      cases hri : rightN nd with
      | false =>
        rw [hri] at HRIGHT
        have HRF := Lib.hid (show res = false by rw [HAT.out, HN.out, hri]; rfl)
        clear hri
        go_wp2_with (fail)
        refine (HPATH.out _).mono ?_
        rintro e w1 ⟨rfl, hw1⟩
        have HB1 := Lib.hid (HB.out.trans (hw1.mono HB.out.size))
        clear hw1 c0 c1 c2 c3
        obtain ⟨ad', e', c0, c1, c2, c3⟩ := HNR.out _ HB1.out
        obtain rfl : ad = ad' := by injection e'
        clear e'
        go_wp2_with (fail)
        clear c0 c1 c2 c3
        refine (show Calls Tryz.prog 80 _ _ _ from HRIGHT.out _).mono ?_
        rintro e w2 ⟨rfl, hw2⟩
        go_wp2_with (fail)
        go_ret
        exact ⟨by rw [HRF.out]; rfl, HB1.out.trans (hw2.mono HB1.out.size)⟩
      | true =>
      rw [hri] at HRIGHT
      rw [hri, Bool.true_and] at HN
      clear hri
      have HRR := Lib.hid (fun W (h : Below w.heap.size w W) => HDIR.out (parentM nd.path) W h)
      generalize dirN t (parentM nd.path) = bd at *
      go_wp2_with (fail)
      refine (HPATH.out _).mono ?_
      rintro e w1 ⟨rfl, hw1⟩
      have HB1 := Lib.hid (HB.out.trans (hw1.mono HB.out.size))
      clear hw1 c0 c1 c2 c3
      obtain ⟨ad', e', c0, c1, c2, c3⟩ := HNR.out _ HB1.out
      obtain rfl : ad = ad' := by injection e'
      clear e'
      go_wp2_with (fail)
      clear c0 c1 c2 c3
      refine (show Calls Tryz.prog 80 _ _ _ from HRIGHT.out _).mono ?_
      rintro e w2 ⟨rfl, hw2⟩
      have HB2 := Lib.hid (HB1.out.trans (hw2.mono HB1.out.size))
      clear hw2
      obtain ⟨ad', e', c0, c1, c2, c3⟩ := HNR.out _ HB2.out
      obtain rfl : ad = ad' := by injection e'
      clear e'
      go_wp2_with (fail)
      clear c0 c1 c2 c3
      refine (HPAR.out _).mono ?_
      rintro e w3 ⟨rfl, hw3⟩
      have HB3 := Lib.hid (HB2.out.trans (hw3.mono HB2.out.size))
      clear hw3
      go_wp2_with (fail)
      refine (HRR.out _ HB3.out).mono ?_
      rintro e w4 ⟨rfl, hw4⟩
      have HB4 := Lib.hid (HB3.out.trans (hw4.mono HB3.out.size))
      clear hw4
      cases bd with
      | false =>
        have HRF := Lib.hid (show res = false by rw [HAT.out, HN.out]; simp)
        go_wp2_with (fail)
        go_ret
        exact ⟨by rw [HRF.out]; rfl, HB4.out⟩
      | true =>
      rw [Bool.and_true] at HN
      cases i with
      | zero =>
        have HRF := Lib.hid (show restOK (fun i => nodeOK t t i) (0 + 1) t.length = res by rw [HAT.out, HN.out]; simp [beforeN])
        go_wp2_with (fail)
        go_quiet (fail)
        go_wp2_with (fail)
        go_roundw
        case rel => exact ⟨0 + 1, by omega, by first | rfl | go_num, HRF, Lib.hid (below_drewN HB4.out _)⟩
        case measure => simp [intOf]; omega
      | succ k =>
        have hk : k < t.length := by omega
        obtain ⟨ad', e', d0, d1, d2, d3⟩ := node_cells (HR.out _ HB4.out) hk
        obtain rfl : ad = ad' := by injection e'
        obtain ⟨ad', e2', c0, c1, c2, c3⟩ := HNR.out _ HB4.out
        obtain rfl : ad = ad' := by injection e2'
        have hpl2 := HP.out _ (mem_getD hk)
        have HBF := Lib.hid (HBN.out k rfl)
        obtain ⟨md, HMD⟩ : ∃ nd : Nd, Hid (nd = t.getD k default) := ⟨_, Lib.hid rfl⟩
        rw [← HMD.out] at d0 d1 d2 d3 hpl2 HBF
        have HORD := Lib.hid (fun W => Order_ref md.path nd.path W hpl2.1 HPL.out.1)
        have k0 : (0 : Int) ≤ k := by omega
        have k1 : (k : Int) < t.length := by omega
        have HD0 := Lib.hid d0
        have HC0 := Lib.hid c0
        clear e' e2' d0 d1 d2 d3 c0 c1 c2 c3 hpl2
        cases hor : decide (orderM md.path nd.path < 0) with
        | false =>
          have hoi2 : decide ((0 : Int) ≤ orderM md.path nd.path) = true := by have := of_decide_eq_false hor; exact decide_eq_true (by omega)
          have HRF := Lib.hid (show res = false by rw [HAT.out, HN.out, HBF.out, hor]; rfl)
          clear hor
          generalize orderM md.path nd.path = o at *
          go_upto_region 8 with (fail)
          refine wp_region_below (by kernel_rfl) (by kernel_rfl) ?_
          repeat first
            | (go_big_quiet_want; refine quiet_load_cell 9 _ rfl _ rfl _ _ HC0.out Tryz.underlying9 rfl ?_; simp only [Act.put, List.setIfInBounds_toArray, List.set_cons_succ, List.set_cons_zero]; go_big_quiet_on)
            | (go_big_quiet_want; refine quiet_load_cell 9 _ rfl _ rfl _ _ HD0.out Tryz.underlying9 rfl ?_; simp only [Act.put, List.setIfInBounds_toArray, List.set_cons_succ, List.set_cons_zero]; go_big_quiet_on)
            | go_big_quiet_step ((intro hW; go_at_call 83; exact Ret.quiet hW (HORD.out _)))
          refine wpQuiet_nil ?_
          intro W2 hW2
          go_wp2_with (fail)
          go_ret
          exact ⟨by rw [HRF.out]; rfl, HB4.out.trans (hW2.mono HB4.out.size)⟩
        | true =>
          have hoi2 : decide ((0 : Int) ≤ orderM md.path nd.path) = false := by have := of_decide_eq_true hor; rw [decide_eq_false_iff_not]; omega
          have HRF := Lib.hid (show restOK (fun i => nodeOK t t i) (k + 1 + 1) t.length = res by rw [HAT.out, HN.out, HBF.out, hor]; rfl)
          clear hor
          generalize orderM md.path nd.path = o at *
          go_upto_region 8 with (fail)
          refine wp_region_below (by kernel_rfl) (by kernel_rfl) ?_
          repeat first
            | (go_big_quiet_want; refine quiet_load_cell 9 _ rfl _ rfl _ _ HC0.out Tryz.underlying9 rfl ?_; simp only [Act.put, List.setIfInBounds_toArray, List.set_cons_succ, List.set_cons_zero]; go_big_quiet_on)
            | (go_big_quiet_want; refine quiet_load_cell 9 _ rfl _ rfl _ _ HD0.out Tryz.underlying9 rfl ?_; simp only [Act.put, List.setIfInBounds_toArray, List.set_cons_succ, List.set_cons_zero]; go_big_quiet_on)
            | go_big_quiet_step ((intro hW; go_at_call 83; exact Ret.quiet hW (HORD.out _)))
          refine wpQuiet_nil ?_
          intro W2 hW2
          go_wp2_with (fail)
          go_roundw
          case rel => exact ⟨k + 1 + 1, by omega, by first | rfl | go_num, HRF, Lib.hid (HB4.out.trans (hW2.mono HB4.out.size))⟩
          case measure => simp [intOf]; omega
    · have i1 : ¬ (i : Int) < t.length := by omega
      obtain rfl : i = t.length := by omega
      have HE2 := Lib.hid (show res = true by rw [← HE.out, restOK_end])
      go_wp2_with (fail)
      go_ret
      exact ⟨by rw [HE2.out]; rfl, HB.out⟩
end Go.Proofs.YtjajoiahgfafgaaGreatDoor
end

/- The document's Values and Bare of trees. -/
section
set_option linter.unusedVariables false
namespace Go.Proofs.YtjajoiahgfafgaaGreatDoor
open Go.RowKit Plain

namespace Plain
def datas (t : List Nd) : List (List UInt8) := (t.filter (fun n => n.kind != 2)).map (·.data)
theorem datas_append (a b : List Nd) : datas (a ++ b) = datas a ++ datas b := by unfold datas; rw [List.filter_append, List.map_append]
theorem datas_one (n : Nd) : datas [n] = if n.kind != 2 then [n.data] else [] := by unfold datas; cases h : (n.kind != 2) <;> simp [h]
theorem datas_le (t : List Nd) : (datas t).length ≤ t.length := by unfold datas; rw [List.length_map]; exact List.length_filter_le _ _
theorem datas_next {t : List Nd} {i : Nat} (h : i < t.length) : (t[i].kind = 2 → datas (t.take (i + 1)) = datas (t.take i)) ∧
    (t[i].kind ≠ 2 → datas (t.take (i + 1)) = datas (t.take i) ++ [t[i].data] ∧ (datas (t.take i)).length < ((datas t).map sha).length ∧ ∃ h2 : (datas (t.take i)).length < ((datas t).map sha).length, ((datas t).map sha)[(datas (t.take i)).length] = sha t[i].data) := by
  have hTK : t.take (i + 1) = t.take i ++ [t[i]] := List.take_succ_eq_append_getElem h
  refine ⟨fun hk => ?_, fun hk => ?_⟩
  · rw [hTK, datas_append, datas_one, if_neg (by simpa using hk), List.append_nil]
  · have e1 : datas (t.take (i + 1)) = datas (t.take i) ++ [t[i].data] := by rw [hTK, datas_append, datas_one, if_pos (by simpa using hk)]
    have hs : datas t = datas (t.take (i + 1) ++ t.drop (i + 1)) := by rw [List.take_append_drop]
    have e2 : datas t = datas (t.take i) ++ (t[i].data :: datas (t.drop (i + 1))) := by
      rw [hs, datas_append, e1, List.append_assoc, List.singleton_append]
    have hl : (datas (t.take i)).length < ((datas t).map sha).length := by rw [List.length_map, e2]; simp
    refine ⟨e1, hl, hl, ?_⟩
    rw [List.getElem_map]
    congr 1
    have : ∀ (l : List (List UInt8)) (hh : (datas (t.take i)).length < l.length), l = datas (t.take i) ++ (t[i].data :: datas (t.drop (i + 1))) → l[(datas (t.take i)).length] = t[i].data := by
      intro l hh e; subst e; simp
    exact this _ _ e2
theorem datas_mem {t : List Nd} {s : List UInt8} (h : s ∈ datas t) : ∃ n ∈ t, n.data = s := by
  unfold datas at h
  obtain ⟨n, hn, rfl⟩ := List.mem_map.1 h
  exact ⟨n, (List.mem_filter.1 hn).1, rfl⟩
end Plain

set_option maxRecDepth 100000 in
set_option maxHeartbeats 8000000 in
theorem values_any (t : List Nd) (A : Option Addr) (c : Nat) (w : World) (hR : IsRows w 4 A (t.map ndV)) (hlen : t.length ≤ 1048576) (hd : ∀ n ∈ t, n.data.length ≤ 1048576) :
    Calls Tryz.prog 49 #[.slice A t.length c] w fun e w' => ∃ v, e = .returned v ∧ w'.ownsRow w.heap.size 41 4 v t.length (rowsE ndV (t.map bareOf)) ∧ Below w.heap.size w w' := by
  obtain ⟨i0, hi0, hz0, hz1, hz2⟩ := info_parts info_str
  obtain ⟨it0, hi1, hy0, hy1, hy2⟩ := info_parts info_nodeA
  have HI := Lib.hid hi0
  have HIN := Lib.hid hi1
  have HR := Lib.hid (fun W (h : Below w.heap.size w W) => hR.below h)
  have HD : Hid (∀ s ∈ datas t, s.length ≤ 1048576) := Lib.hid (fun s hs => by obtain ⟨n, hn, rfl⟩ := datas_mem hs; exact hd n hn)
  have HDL := Lib.hid (datas_le t)
  clear hR hd hi0 hi1
  go_enter Tryz.func49, Tryz.ntmps49
  go_wp2_with (fail)
  go_loopw [3, 4] (fun t3 t4 W => ∃ i : Nat, i ≤ t.length ∧ t4 = .int .i64 i ∧ Hid (W.ownsRow w.heap.size 9 1 t3 (datas (t.take i)).length (strs (datas (t.take i)))) ∧ Hid (Below w.heap.size w W)) (fun _ t4 _ => t.length - (intOf t4).toNat)
  case atStart => exact ⟨0, by omega, rfl, Lib.hid (World.ownsRow_nil _ _ _ _), Lib.hid (Below.refl _ _)⟩
  case round =>
    obtain ⟨i, hi, rfl, HO, HB⟩ := hrel
    have i0' : (0 : Int) ≤ i := by omega
    by_cases hlt : i < t.length
    · have i1 : (i : Int) < t.length := by omega
      have e1 : IntKind.i64.wrap ((i : Int) + 1) = (i : Int) + 1 := IntWalk.i64_in _ (by omega)
      have hrw := HR.out _ HB.out
      obtain ⟨ad, rfl, c0, c1, c2, c3⟩ := node_cells hrw hlt
      have hgd : t.getD i default = t[i] := by rw [List.getD_eq_getElem?_getD, List.getElem?_eq_getElem hlt, Option.getD_some]
      rw [hgd] at c0 c1 c2 c3
      have HNX := Lib.hid (datas_next hlt)
      have hle : (datas (t.take i)).length ≤ 1048576 := by have := datas_le (t.take i); rw [List.length_take] at this; omega
      by_cases hk : t[i].kind = 2
      · have hk2 : (t[i].kind != 2) = false := by simpa using hk
        have HO5 := Lib.hid (show wr.ownsRow w.heap.size 9 1 _ (datas (t.take (i + 1))).length (strs (datas (t.take (i + 1)))) by rw [HNX.out.1 hk]; exact HO.out)
        clear HNX HO hle hk hgd hrw
        generalize t[i] = nd at *
        go_wp2_with (fail)
        go_roundw
        case rel => exact ⟨i + 1, by omega, by go_num, HO5, HB⟩
        case measure => simp [intOf]; omega
      · have hk2 : (t[i].kind != 2) = true := by simpa using hk
        have HN2 := Lib.hid (HNX.out.2 hk).1
        clear HNX hk hgd hrw
        generalize t[i] = nd at *
        go_wp2_with (at_builtin; refine wpList_append_two rfl _ _ 93 rfl w.heap.size 9 i0 _ 1 16 Tryz.underlying93 HI.out hz0 hz1 hz2 rfl (by decide) _ _ _ rfl (HO.out.alloc _) ⟨wr.heap.size, 0, none⟩ 1 1 [.string ⟨nd.data.toArray⟩] rfl rfl (laid_one _ _ _) (one_oneCell rfl) ?c3 ?c4 ?c5 ?_)
        case c3 => unfold maxLen; omega
        case c4 => omega
        case c5 => have := HB.out.size; simp; omega
        intro v1 w5 hown5 hg5 hl5
        have hb5 : Below w.heap.size w w5 := (HB.out.alloc HB.out.size _).grown hg5 (by have := HB.out.size; simp; omega) (fun k hk => (HO.out.lt k hk).1)
        have hown6 : w5.ownsRow w.heap.size 9 1 v1 (datas (t.take (i + 1))).length (strs (datas (t.take (i + 1)))) := by
          rw [HN2.out, strs_append, List.length_append]; exact hown5
        have HO5 := Lib.hid hown6
        have HB5 := Lib.hid hb5
        clear hown5 hown6 hg5 hl5 hb5 HO HB
        go_wp2_with (fail)
        go_roundw
        case rel => exact ⟨i + 1, by omega, by go_num, HO5, HB5⟩
        case measure => simp [intOf]; omega
    · obtain rfl : i = t.length := by omega
      have i1 : ¬ (t.length : Int) < t.length := by omega
      have hOX := HO.out
      rw [List.take_of_length_le (Nat.le_refl _)] at hOX
      obtain ⟨A3, c3, rfl, -, -, hrd⟩ := IsSlice.of_own hOX
      have HRD := Lib.hid hrd
      have hdl := HDL.out
      have HB1 := HB
      clear hOX hrd HO HB
      by_cases h0 : (datas t).length = 0
      · have hle0 : ¬ (0 : Int) < ((datas t).length : Int) := by omega
        have HLT : Hid ((datas t).length ≤ 1048576) := Lib.hid (by omega)
        obtain ⟨L, hL⟩ : ∃ L, L = (datas t).map sha := ⟨_, rfl⟩
        have HLL := Lib.hid hL
        have hLn : (datas t).length = L.length := by rw [hL, List.length_map]
        have hL0 : L = [] := by rw [← List.length_eq_zero_iff]; omega
        have HS : Hid (∀ W, Below wr.heap.size wr W → Reads W 1 A3 L.length (strs L)) := Lib.hid (fun W _ => by rw [hL0]; exact ⟨rfl, fun h => absurd h (by simp)⟩)
        rw [hLn] at hle0 HLT
        rw [hLn]
        have HB2 := HB1
        clear HD HDL hL h0 hLn hdl HRD HB1 hL0
        generalize wr = w2 at *
        go_upto_region 12 with (fail)
        go_loopw [5, 6, 7] (fun t5 t6 t7 W => ∃ i : Nat, i ≤ t.length ∧ t7 = .int .i64 i ∧ t6 = .int .i64 ((datas (t.take i)).length : Nat) ∧ Hid (W.ownsRow w2.heap.size 41 4 t5 i (rowsE ndV ((t.take i).map bareOf))) ∧ Hid (Below w2.heap.size w2 W)) (fun _ _ t7 _ => t.length - (intOf t7).toNat)
        case atStart => exact ⟨0, by omega, rfl, rfl, Lib.hid (World.ownsRow_nil _ _ _ _), Lib.hid (Below.refl _ _)⟩
        case round =>
          obtain ⟨i, hi, rfl, rfl, HO, HB⟩ := hrel
          have i0 : (0 : Int) ≤ i := by omega
          by_cases hlt : i < t.length
          · have i1 : (i : Int) < t.length := by omega
            have e1 : IntKind.i64.wrap ((i : Int) + 1) = (i : Int) + 1 := IntWalk.i64_in _ (by omega)
            have hrw := HR.out _ (HB2.out.trans (HB.out.mono HB2.out.size))
            have HSW := Lib.hid (HS.out _ HB.out)
            obtain ⟨ad, rfl, c0, c1, c2, c3⟩ := node_cells hrw hlt
            have hgd : t.getD i default = t[i] := by rw [List.getD_eq_getElem?_getD, List.getElem?_eq_getElem hlt, Option.getD_some]
            rw [hgd] at c0 c1 c2 c3
            have hTK : t.take (i + 1) = t.take i ++ [t[i]] := List.take_succ_eq_append_getElem hlt
            have HNX := Lib.hid (datas_next hlt)
            have HTK : Hid ((t.take (i + 1)).map bareOf = (t.take i).map bareOf ++ [bareOf t[i]]) := Lib.hid (by rw [hTK, List.map_append]; rfl)
            have HBO := Lib.hid (show bareOf t[i] = if t[i].kind == 2 then t[i] else { t[i] with data := hex (sha t[i].data) } from rfl)
            obtain ⟨wn, hwn⟩ : ∃ wn, wr.alloc (.cells (ndV t[i]).toArray 41) = wn := ⟨_, rfl⟩
            have HWN := Lib.hid hwn
            have HNR := Lib.hid (show wn.heap[wr.heap.size]? = some (.cells (ndV t[i]).toArray 41 (0, 0)) by rw [← hwn]; exact heap_alloc_new _ _)
            have hbn := (show Below wr.heap.size wr wn by rw [← hwn]; exact (Below.refl _ _).alloc (Nat.le_refl _) _)
            have HBN := Lib.hid (HB.out.trans (hbn.mono HB.out.size))
            have HON := Lib.hid (own_below HO.out hbn)
            have HGT := Lib.hid (show w2.heap.size ≤ wr.heap.size from HB.out.size)
            have HGO := Lib.hid (fun k (hk : _ = some k) => (HO.out.lt k hk).2)
            have HSN := Lib.hid (HSW.out.below (hbn.mono (Nat.le_refl _)))
            by_cases hk : t[i].kind = 2
            · have hk2 : (t[i].kind != 2) = false := by simpa using hk
              have HN2 := Lib.hid (HNX.out.1 hk)
              have HB3 : Hid (bareOf t[i] = t[i]) := Lib.hid (by rw [HBO.out, if_pos (by simpa using hk)])
              rw [HB3.out] at HTK
              generalize t[i] = nd at *
              unfold ndV at HWN HNR
              clear hwn hbn hTK hgd HBO HNX HSW HSN hrw HB HO HGT HGO HB3 hk
              go_upto_region 15 with (fail)
              rw [HWN.out]
              have n0 := cell_of_row wn _ 0 _ _ _ HNR.out
              have n1 := cell_of_row wn _ 1 _ _ _ HNR.out
              have n2 := cell_of_row wn _ 2 _ _ _ HNR.out
              have n3 := cell_of_row wn _ 3 _ _ _ HNR.out
              go_wp2_with (at_builtin; refine wpList_append_two rfl _ _ 23 rfl w2.heap.size 41 it0 _ 4 48 Tryz.underlying23 HIN.out hy0 hy1 hy2 rfl (by decide) _ _ _ rfl (HON.out.alloc _) ⟨wn.heap.size, 0, none⟩ 1 1 [.string ⟨nd.path.toArray⟩, .int .i64 nd.kind, .string ⟨nd.data.toArray⟩, .int .i64 nd.mode] rfl rfl (laid_rowN wn _ _) (by intro u hu; simp at hu; rcases hu with rfl | rfl | rfl | rfl <;> rfl) ?c3 ?c4 ?c5 ?_)
              case c3 => unfold maxLen; omega
              case c4 => omega
              case c5 => have := HBN.out.size; simp; omega
              intro v5 wf hown hgrow hcl
              have hb5 := (HBN.out.alloc HBN.out.size _).grown hgrow (by have := HBN.out.size; simp; omega) (fun k hk => (HON.out.lt k hk).1)
              have hown2 : wf.ownsRow w2.heap.size 41 4 v5 (i + 1) (rowsE ndV ((t.take (i + 1)).map bareOf)) := by
                rw [HTK.out, rowsE_append, List.map_take]; exact hown
              have HO5 := Lib.hid hown2
              have HB5 := Lib.hid hb5
              clear hown hown2 hgrow hcl hb5 HON HBN
              go_wp2_with (fail)
              go_roundw
              case rel => exact ⟨i + 1, by omega, by go_num, by rw [HN2.out], HO5, HB5⟩
              case measure => simp [intOf]; omega
            · have hk2 : (t[i].kind != 2) = true := by simpa using hk
              obtain ⟨hn1, hn2, hn2x, hn3⟩ := HNX.out.2 hk
              rw [← HLL.out] at hn2
              have HN2 := Lib.hid hn1
              have HN4 := Lib.hid (show L[(datas (t.take i)).length] = sha t[i].data by
                have hh := hn3
                have e := HLL.out
                subst e
                exact hh)
              have HB3 : Hid (bareOf t[i] = { t[i] with data := hex (sha t[i].data) }) := Lib.hid (by rw [HBO.out, if_neg (by simpa using hk)])
              rw [HB3.out] at HTK
              obtain ⟨ads, rfl, hstr⟩ := HSN.out.str_at hn2
              rw [HN4.out] at hstr
              have HX := Lib.hid (fun W => Hex_ref (sha t[i].data) W (by rw [sha_length]; omega))
              exact absurd hn2 (by omega)
          · obtain rfl : i = t.length := by omega
            have i1 : ¬ (t.length : Int) < t.length := by omega
            have HF : Hid (wr.ownsRow w.heap.size 41 4 _ t.length (rowsE ndV (t.map bareOf))) := Lib.hid (by have h := own_base HO.out HB2.out.size; rwa [List.take_of_length_le (Nat.le_refl _)] at h)
            have HFB := Lib.hid (HB2.out.trans (HB.out.mono HB2.out.size))
            clear HO HB
            go_wp2_with (fail)
            go_ret
            exact ⟨_, rfl, HF.out, HFB.out⟩
      · have hle0 : (0 : Int) < ((datas t).length : Int) := by omega
        have HSU := Lib.hid (Sums_any A3 c3 (datas t) wr HRD.out (by omega) HD.out)
        have HLT : Hid ((datas t).length ≤ 1048576) := Lib.hid (by omega)
        clear HRD HD HDL hdl h0
        go_wp2_with (fail)
        refine HSU.out.mono ?_
        rintro e w2 ⟨v2, rfl, hv2, hb2⟩
        obtain ⟨L, hL⟩ : ∃ L, L = (datas t).map sha := ⟨_, rfl⟩
        have HLL := Lib.hid hL
        have hLn : (datas t).length = L.length := by rw [hL, List.length_map]
        rw [← hL, hLn] at hv2
        obtain ⟨A4, c4, rfl, -, -, hrd⟩ := IsSlice.of_own hv2
        have HS : Hid (∀ W, Below w2.heap.size w2 W → Reads W 1 A4 L.length (strs L)) := Lib.hid (fun W h => hrd.below h)
        have HB2 := Lib.hid (HB1.out.trans (hb2.mono HB1.out.size))
        rw [hLn] at hle0 HLT
        clear hv2 hb2 hrd HB1 hL hLn HSU
        go_upto_region 12 with (fail)
        go_loopw [5, 6, 7] (fun t5 t6 t7 W => ∃ i : Nat, i ≤ t.length ∧ t7 = .int .i64 i ∧ t6 = .int .i64 ((datas (t.take i)).length : Nat) ∧ Hid (W.ownsRow w2.heap.size 41 4 t5 i (rowsE ndV ((t.take i).map bareOf))) ∧ Hid (Below w2.heap.size w2 W)) (fun _ _ t7 _ => t.length - (intOf t7).toNat)
        case atStart => exact ⟨0, by omega, rfl, rfl, Lib.hid (World.ownsRow_nil _ _ _ _), Lib.hid (Below.refl _ _)⟩
        case round =>
          obtain ⟨i, hi, rfl, rfl, HO, HB⟩ := hrel
          have i0 : (0 : Int) ≤ i := by omega
          by_cases hlt : i < t.length
          · have i1 : (i : Int) < t.length := by omega
            have e1 : IntKind.i64.wrap ((i : Int) + 1) = (i : Int) + 1 := IntWalk.i64_in _ (by omega)
            have hrw := HR.out _ (HB2.out.trans (HB.out.mono HB2.out.size))
            have HSW := Lib.hid (HS.out _ HB.out)
            obtain ⟨ad, rfl, c0, c1, c2, c3⟩ := node_cells hrw hlt
            have hgd : t.getD i default = t[i] := by rw [List.getD_eq_getElem?_getD, List.getElem?_eq_getElem hlt, Option.getD_some]
            rw [hgd] at c0 c1 c2 c3
            have hTK : t.take (i + 1) = t.take i ++ [t[i]] := List.take_succ_eq_append_getElem hlt
            have HNX := Lib.hid (datas_next hlt)
            have HTK : Hid ((t.take (i + 1)).map bareOf = (t.take i).map bareOf ++ [bareOf t[i]]) := Lib.hid (by rw [hTK, List.map_append]; rfl)
            have HBO := Lib.hid (show bareOf t[i] = if t[i].kind == 2 then t[i] else { t[i] with data := hex (sha t[i].data) } from rfl)
            obtain ⟨wn, hwn⟩ : ∃ wn, wr.alloc (.cells (ndV t[i]).toArray 41) = wn := ⟨_, rfl⟩
            have HWN := Lib.hid hwn
            have HNR := Lib.hid (show wn.heap[wr.heap.size]? = some (.cells (ndV t[i]).toArray 41 (0, 0)) by rw [← hwn]; exact heap_alloc_new _ _)
            have hbn := (show Below wr.heap.size wr wn by rw [← hwn]; exact (Below.refl _ _).alloc (Nat.le_refl _) _)
            have HBN := Lib.hid (HB.out.trans (hbn.mono HB.out.size))
            have HON := Lib.hid (own_below HO.out hbn)
            have HGT := Lib.hid (show w2.heap.size ≤ wr.heap.size from HB.out.size)
            have HGO := Lib.hid (fun k (hk : _ = some k) => (HO.out.lt k hk).2)
            have HSN := Lib.hid (HSW.out.below (hbn.mono (Nat.le_refl _)))
            by_cases hk : t[i].kind = 2
            · have hk2 : (t[i].kind != 2) = false := by simpa using hk
              have HN2 := Lib.hid (HNX.out.1 hk)
              have HB3 : Hid (bareOf t[i] = t[i]) := Lib.hid (by rw [HBO.out, if_pos (by simpa using hk)])
              rw [HB3.out] at HTK
              generalize t[i] = nd at *
              unfold ndV at HWN HNR
              clear hwn hbn hTK hgd HBO HNX HSW HSN hrw HB HO HGT HGO HB3 hk
              go_upto_region 15 with (fail)
              rw [HWN.out]
              have n0 := cell_of_row wn _ 0 _ _ _ HNR.out
              have n1 := cell_of_row wn _ 1 _ _ _ HNR.out
              have n2 := cell_of_row wn _ 2 _ _ _ HNR.out
              have n3 := cell_of_row wn _ 3 _ _ _ HNR.out
              go_wp2_with (at_builtin; refine wpList_append_two rfl _ _ 23 rfl w2.heap.size 41 it0 _ 4 48 Tryz.underlying23 HIN.out hy0 hy1 hy2 rfl (by decide) _ _ _ rfl (HON.out.alloc _) ⟨wn.heap.size, 0, none⟩ 1 1 [.string ⟨nd.path.toArray⟩, .int .i64 nd.kind, .string ⟨nd.data.toArray⟩, .int .i64 nd.mode] rfl rfl (laid_rowN wn _ _) (by intro u hu; simp at hu; rcases hu with rfl | rfl | rfl | rfl <;> rfl) ?c3 ?c4 ?c5 ?_)
              case c3 => unfold maxLen; omega
              case c4 => omega
              case c5 => have := HBN.out.size; simp; omega
              intro v5 wf hown hgrow hcl
              have hb5 := (HBN.out.alloc HBN.out.size _).grown hgrow (by have := HBN.out.size; simp; omega) (fun k hk => (HON.out.lt k hk).1)
              have hown2 : wf.ownsRow w2.heap.size 41 4 v5 (i + 1) (rowsE ndV ((t.take (i + 1)).map bareOf)) := by
                rw [HTK.out, rowsE_append, List.map_take]; exact hown
              have HO5 := Lib.hid hown2
              have HB5 := Lib.hid hb5
              clear hown hown2 hgrow hcl hb5 HON HBN
              go_wp2_with (fail)
              go_roundw
              case rel => exact ⟨i + 1, by omega, by go_num, by rw [HN2.out], HO5, HB5⟩
              case measure => simp [intOf]; omega
            · have hk2 : (t[i].kind != 2) = true := by simpa using hk
              obtain ⟨hn1, hn2, hn2x, hn3⟩ := HNX.out.2 hk
              rw [← HLL.out] at hn2
              have HN2 := Lib.hid hn1
              have HN4 := Lib.hid (show L[(datas (t.take i)).length] = sha t[i].data by
                have hh := hn3
                have e := HLL.out
                subst e
                exact hh)
              have HB3 : Hid (bareOf t[i] = { t[i] with data := hex (sha t[i].data) }) := Lib.hid (by rw [HBO.out, if_neg (by simpa using hk)])
              rw [HB3.out] at HTK
              obtain ⟨ads, rfl, hstr⟩ := HSN.out.str_at hn2
              rw [HN4.out] at hstr
              have HX := Lib.hid (fun W => Hex_ref (sha t[i].data) W (by rw [sha_length]; omega))
              have hkl : ((datas (t.take i)).length : Int) < (L.length : Int) := by omega
              have hkm : (datas (t.take i)).length < 1048577 := by have := HLT.out; omega
              have k0 : (0 : Int) ≤ ((datas (t.take i)).length : Int) := by omega
              have e2 : IntKind.i64.wrap (((datas (t.take i)).length : Int) + 1) = ((datas (t.take i)).length : Int) + 1 := IntWalk.i64_in _ (by omega)
              have HK1 : Hid ((datas (t.take (i + 1))).length = (datas (t.take i)).length + 1) := Lib.hid (by rw [HN2.out]; simp)
              clear hn1 hn2 hn3 HN2 HN4
              generalize (datas (t.take i)).length = kk at *
              generalize t[i] = nd at *
              generalize hex (sha nd.data) = hx at *
              generalize sha nd.data = hs at *
              unfold ndV at HWN HNR
              clear hwn hbn hTK hgd HBO HNX HSW HSN hrw HB HO HB3 hk
              go_upto_region 15 with (fail)
              rw [HWN.out]
              have n1 := cell_of_row wn _ 1 _ _ _ HNR.out
              go_wp2_with (fail)
              clear n1 hstr
              refine (HX.out wn).mono ?_
              rintro e wq ⟨rfl, hwq⟩
              have hrq := (hwq.block _ (lt_of_heap HNR.out)).trans HNR.out
              have HBQ := Lib.hid (HBN.out.trans (hwq.mono HBN.out.size))
              have HOQ := Lib.hid (own_below HON.out hwq)
              have q2 := cell_of_row wq _ 2 _ _ _ hrq
              have f2 := frozen_of_row wq _ 2 _ _ hrq
              obtain ⟨wz, hwz⟩ : ∃ wz, wq.setCell ⟨wr.heap.size, 2, none⟩ (.string ⟨hx.toArray⟩) = wz := ⟨_, rfl⟩
              have HWZ := Lib.hid hwz
              have HRS := Lib.hid (show wz.heap[wr.heap.size]? = some (.cells #[.string ⟨nd.path.toArray⟩, .int .i64 nd.kind, .string ⟨hx.toArray⟩, .int .i64 nd.mode] 41 (0, 0)) by rw [← hwz]; exact heap_set hrq 2 (.string ⟨hx.toArray⟩))
              have HBNx := Lib.hid (show Below w2.heap.size w2 wz by rw [← hwz]; exact HBQ.out.setCell (p := ⟨wr.heap.size, 2, none⟩) HGT.out (.string ⟨hx.toArray⟩))
              have HONx := Lib.hid (show wz.ownsRow w2.heap.size 41 4 _ i (rowsE ndV ((t.take i).map bareOf)) by rw [← hwz]; exact HOQ.out.kept (gb_set (gb_refl wq (some wr.heap.size)) (p := ⟨wr.heap.size, 2, none⟩) (.inl rfl) (.string ⟨hx.toArray⟩)) (.inr (fun e => by have := HGO.out _ e; omega)))
              clear hwq hrq HBN HON HBQ HOQ HNR hwz
              have HBN := HBNx
              have HON := HONx
              clear HBNx HONx
              go_upto_region 17 with (fail)
              rw [HWZ.out]
              clear f2 q2
              have n0 := cell_of_row wz _ 0 _ _ _ HRS.out
              have n1 := cell_of_row wz _ 1 _ _ _ HRS.out
              have n2 := cell_of_row wz _ 2 _ _ _ HRS.out
              have n3 := cell_of_row wz _ 3 _ _ _ HRS.out
              go_wp2_with (at_builtin; refine wpList_append_two rfl _ _ 23 rfl w2.heap.size 41 it0 _ 4 48 Tryz.underlying23 HIN.out hy0 hy1 hy2 rfl (by decide) _ _ _ rfl (HON.out.alloc _) ⟨wz.heap.size, 0, none⟩ 1 1 [.string ⟨nd.path.toArray⟩, .int .i64 nd.kind, .string ⟨hx.toArray⟩, .int .i64 nd.mode] rfl rfl (laid_rowN wz _ _) (by intro u hu; simp at hu; rcases hu with rfl | rfl | rfl | rfl <;> rfl) ?c3 ?c4 ?c5 ?_)
              case c3 => unfold maxLen; omega
              case c4 => omega
              case c5 => have := HBN.out.size; simp; omega
              intro v5 wf hown hgrow hcl
              have hb5 := (HBN.out.alloc HBN.out.size _).grown hgrow (by have := HBN.out.size; simp; omega) (fun k hk => (HON.out.lt k hk).1)
              have hown2 : wf.ownsRow w2.heap.size 41 4 v5 (i + 1) (rowsE ndV ((t.take (i + 1)).map bareOf)) := by
                rw [HTK.out, rowsE_append, List.map_take]; exact hown
              have HO5 := Lib.hid hown2
              have HB5 := Lib.hid hb5
              clear hown hown2 hgrow hcl hb5 HON HBN
              go_wp2_with (fail)
              go_roundw
              case rel => exact ⟨i + 1, by omega, by go_num, by rw [HK1.out]; go_num, HO5, HB5⟩
              case measure => simp [intOf]; omega
          · obtain rfl : i = t.length := by omega
            have i1 : ¬ (t.length : Int) < t.length := by omega
            have HF : Hid (wr.ownsRow w.heap.size 41 4 _ t.length (rowsE ndV (t.map bareOf))) := Lib.hid (by have h := own_base HO.out HB2.out.size; rwa [List.take_of_length_le (Nat.le_refl _)] at h)
            have HFB := Lib.hid (HB2.out.trans (HB.out.mono HB2.out.size))
            clear HO HB
            go_wp2_with (fail)
            go_ret
            exact ⟨_, rfl, HF.out, HFB.out⟩

set_option maxRecDepth 100000 in
set_option maxHeartbeats 4000000 in
theorem rBare_any (t : List Nd) (A : Option Addr) (c : Nat) (w : World) (hR : IsRows w 4 A (t.map ndV)) (hc : t.length ≤ c) (hlen : t.length ≤ 1048576) (hp : ∀ n ∈ t, n.path.length ≤ 1048576 ∧ n.data.length ≤ 1048576) :
    Calls Tryz.prog 18 #[.slice A t.length c] w (BareOut w (bareP t)) := by
  have HT := Lib.hid (rcheck_any t A c w hR hc (by omega) (fun n hn => by have := hp n hn; omega))
  have HV := Lib.hid (fun W (h : Below w.heap.size w W) => values_any t A c W (hR.below h) hlen (fun n hn => (hp n hn).2))
  cases hok : treeOK t with
  | false =>
    have HB := Lib.hid (show bareP t = ([], 60) by unfold bareP; rw [hok]; rfl)
    rw [HB.out]
    rw [hok] at HT
    have HT1 : Hid (Calls Tryz.prog 48 #[.slice A t.length c] w (Ret w (.int .i64 60))) := HT
    clear hok HT HV hR hp HB
    go_enter Tryz.func18, Tryz.ntmps18
    go_wp2_with (fail)
    refine HT1.out.mono ?_
    rintro e w1 ⟨rfl, hw1⟩
    go_wp2_with (fail)
    go_ret2
    exact ⟨none, 0, rfl, Nat.le_refl _, nil_rows _ _, hw1⟩
  | true =>
    have HB := Lib.hid (show bareP t = (t.map bareOf, 0) by unfold bareP; rw [hok]; rfl)
    rw [HB.out]
    rw [hok] at HT
    have HT1 : Hid (Calls Tryz.prog 48 #[.slice A t.length c] w (Ret w (.int .i64 0))) := HT
    clear hok HT hR hp HB
    go_enter Tryz.func18, Tryz.ntmps18
    go_wp2_with (fail)
    refine HT1.out.mono ?_
    rintro e w1 ⟨rfl, hw1⟩
    have HB1 := Lib.hid hw1
    clear hw1
    go_wp2_with (fail)
    refine (HV.out _ HB1.out).mono ?_
    rintro e w2 ⟨v, rfl, hown, hw2⟩
    obtain ⟨A6, c6, rfl, hc6, -, -⟩ := IsSlice.of_own hown
    have HB2 := Lib.hid (HB1.out.trans (hw2.mono HB1.out.size))
    have HO := Lib.hid (own_rowsA ndV_length hown (by simp))
    clear hown hw2
    go_wp2_with (fail)
    go_ret2
    exact ⟨A6, c6, by simp, by simpa using hc6, HO.out, HB2.out⟩
end Go.Proofs.YtjajoiahgfafgaaGreatDoor
end
