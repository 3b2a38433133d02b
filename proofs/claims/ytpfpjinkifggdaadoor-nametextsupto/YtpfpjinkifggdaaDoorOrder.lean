/- name.Order. -/
import Derived.Test.YtpfpjinkifggdaaDoorNameFns
namespace Go.Proofs.YtpfpjinkifggdaaDoor
open Go.RowKit Plain

theorem bl_lt : ∀ (a b : List UInt8), Op.bytesLess a b = decide (a < b)
  | [], [] => rfl
  | [], _ :: _ => by simp [Op.bytesLess]
  | _ :: _, [] => rfl
  | x :: a, y :: b => by
    show (decide (x < y) || (x == y && Op.bytesLess a b)) = _
    rw [bl_lt a b, Bool.eq_iff_iff]
    simp only [Bool.or_eq_true, Bool.and_eq_true, decide_eq_true_eq, beq_iff_eq, List.cons_lt_cons_iff]

def cmpM (a b : List UInt8) : Int := if a < b then -1 else if b < a then 1 else 0
theorem isNaN_any (x : List UInt8) (w : World) : Calls Tryd.prog 43 #[.string ⟨x.toArray⟩] w (Ret w (.bool false)) := by
  go_enter Tryd.func43, Tryd.ntmps43
  go_wp2_with (fail)
  go_ret
  exact ⟨by simp, Below.refl _ _⟩
theorem Compare_any (x y : List UInt8) (w : World) : Calls Tryd.prog 31 #[.string ⟨x.toArray⟩, .string ⟨y.toArray⟩] w (Ret w (.int .i64 (cmpM x y))) := by
  have HN := Lib.hid (fun z W => isNaN_any z W)
  by_cases h1 : x < y
  · have hc : cmpM x y = -1 := by unfold cmpM; rw [if_pos h1]
    have hb : Op.bytesLess x y = true := by rw [bl_lt]; exact decide_eq_true h1
    rw [hc]
    clear h1 hc
    go_enter Tryd.func31, Tryd.ntmps31
    go_wp2_with (fail)
    refine (HN.out x _).mono ?_
    rintro e w1 ⟨rfl, hw1⟩
    go_wp2_with (fail)
    refine (HN.out y _).mono ?_
    rintro e w2 ⟨rfl, hw2⟩
    go_wp2_with (fail)
    go_ret
    exact ⟨rfl, hw1.trans (hw2.mono hw1.size)⟩
  · have hb : Op.bytesLess x y = false := by rw [bl_lt]; exact decide_eq_false h1
    by_cases h2 : y < x
    · have hc : cmpM x y = 1 := by unfold cmpM; rw [if_neg h1, if_pos h2]
      have hb2 : (x == y) = false := by simp; rintro rfl; exact h1 h2
      rw [hc]
      clear h1 h2 hc
      go_enter Tryd.func31, Tryd.ntmps31
      go_wp2_with (fail)
      refine (HN.out x _).mono ?_
      rintro e w1 ⟨rfl, hw1⟩
      go_wp2_with (fail)
      refine (HN.out y _).mono ?_
      rintro e w2 ⟨rfl, hw2⟩
      go_wp2_with (fail)
      go_ret
      exact ⟨rfl, hw1.trans (hw2.mono hw1.size)⟩
    · have hc : cmpM x y = 0 := by unfold cmpM; rw [if_neg h1, if_neg h2]
      have hb2 : (x == y) = true := by simp; exact eq_of_not_lt h1 h2
      rw [hc]
      clear h1 h2 hc
      go_enter Tryd.func31, Tryd.ntmps31
      go_wp2_with (fail)
      refine (HN.out x _).mono ?_
      rintro e w1 ⟨rfl, hw1⟩
      go_wp2_with (fail)
      refine (HN.out y _).mono ?_
      rintro e w2 ⟨rfl, hw2⟩
      go_wp2_with (fail)
      go_ret
      exact ⟨rfl, hw1.trans (hw2.mono hw1.size)⟩

theorem sCut_hit (p r : List UInt8) (w : World) (hp : 47 ∉ p) (hs : (p ++ 47 :: r).length ≤ 9223372036854775807) :
    Calls Tryd.prog 42 #[.string ⟨(p ++ 47 :: r).toArray⟩, .string ⟨#[47]⟩] w (Ret w (.tuple #[.string ⟨p.toArray⟩, .string ⟨r.toArray⟩, .bool true])) := by
  have h := Tryd.stringslite_Index_one ⟨(p ++ 47 :: r).toArray⟩ 47 w
  rw [show (ByteArray.mk (p ++ 47 :: r).toArray).data.toList = p ++ 47 :: r from rfl, ib_first p r hp] at h
  have HI := Lib.hid h
  have hd : (p ++ 47 :: r).drop (p.length + 1) = r := by rw [← List.drop_drop, List.drop_left' rfl]; rfl
  have hd2 : r.take ((p ++ 47 :: r).length - (p.length + 1)) = r := List.take_of_length_le (by simp; omega)
  have ht : (p ++ 47 :: r).take p.length = p := by simp
  have hpl : p.length + 1 ≤ (p ++ 47 :: r).length := by simp
  clear h
  generalize p ++ 47 :: r = s at *
  go_enter Tryd.func42, Tryd.ntmps42
  go_wp2_with (fail)
  refine HI.out.mono ?_
  rintro e w1 ⟨rfl, rfl⟩
  go_wp2_with (fail)
  have e1 : IntKind.i64.wrap ((p.length : Int) + 1) = (p.length : Int) + 1 := IntWalk.i64_in _ (by omega)
  have e2 : ((p.length : Int) + 1).toNat = p.length + 1 := by omega
  have e3 : (0 : Int) ≤ (p.length : Int) + 1 := by omega
  refine wp_region_below (by kernel_rfl) (by kernel_rfl) ?_
  repeat (go_big_quiet_step (fail))
  refine wpQuiet_nil ?_
  intro W2 hW2
  clear e1 e2 e3
  go_wp2_with (fail)
  go_ret3
  exact ⟨rfl, hW2⟩
theorem sCut_miss (s : List UInt8) (w : World) (hp : 47 ∉ s) (hs : s.length ≤ 9223372036854775807) :
    Calls Tryd.prog 42 #[.string ⟨s.toArray⟩, .string ⟨#[47]⟩] w (Ret w (.tuple #[.string ⟨s.toArray⟩, .string ⟨#[]⟩, .bool false])) := by
  have h := Tryd.stringslite_Index_one ⟨s.toArray⟩ 47 w
  rw [show (ByteArray.mk s.toArray).data.toList = s from rfl, ib_none hp] at h
  have HI := Lib.hid h
  clear h
  go_enter Tryd.func42, Tryd.ntmps42
  go_wp2_with (fail)
  refine HI.out.mono ?_
  rintro e w1 ⟨rfl, rfl⟩
  go_wp2_with (fail)
  go_ret3
  exact ⟨rfl, Below.refl _ _⟩
theorem Cut_hit (p r : List UInt8) (w : World) (hp : 47 ∉ p) (hs : (p ++ 47 :: r).length ≤ 9223372036854775807) :
    Calls Tryd.prog 30 #[.string ⟨(p ++ 47 :: r).toArray⟩, .string ⟨#[47]⟩] w (Ret w (.tuple #[.string ⟨p.toArray⟩, .string ⟨r.toArray⟩, .bool true])) := by
  have HC := Lib.hid (sCut_hit p r w hp hs)
  clear hs
  generalize p ++ 47 :: r = s at *
  go_enter Tryd.func30, Tryd.ntmps30
  go_wp2_with (fail)
  refine HC.out.mono ?_
  rintro e w1 ⟨rfl, hw1⟩
  go_wp2_with (fail)
  go_ret3
  exact ⟨rfl, hw1⟩
theorem Cut_miss (s : List UInt8) (w : World) (hp : 47 ∉ s) (hs : s.length ≤ 9223372036854775807) :
    Calls Tryd.prog 30 #[.string ⟨s.toArray⟩, .string ⟨#[47]⟩] w (Ret w (.tuple #[.string ⟨s.toArray⟩, .string ⟨#[]⟩, .bool false])) := by
  have HC := Lib.hid (sCut_miss s w hp hs)
  clear hs
  go_enter Tryd.func30, Tryd.ntmps30
  go_wp2_with (fail)
  refine HC.out.mono ?_
  rintro e w1 ⟨rfl, hw1⟩
  go_wp2_with (fail)
  go_ret3
  exact ⟨rfl, hw1⟩

theorem cmp_cases (x y : List UInt8) : (x < y ∧ cmpM x y = -1) ∨ (¬ x < y ∧ y < x ∧ cmpM x y = 1) ∨ (x = y ∧ cmpM x y = 0) := by
  unfold cmpM
  by_cases h1 : x < y
  · exact .inl ⟨h1, if_pos h1⟩
  · by_cases h2 : y < x
    · exact .inr (.inl ⟨h1, h2, by rw [if_neg h1, if_pos h2]⟩)
    · exact .inr (.inr ⟨eq_of_not_lt h1 h2, by rw [if_neg h1, if_neg h2]⟩)
theorem orderP_lt {x y : List UInt8} (xs ys : List (List UInt8)) (h : x < y) : orderP (x :: xs) (y :: ys) = -1 := by unfold orderP; rw [if_pos h]
theorem orderP_gt {x y : List UInt8} (xs ys : List (List UInt8)) (h1 : ¬ x < y) (h : y < x) : orderP (x :: xs) (y :: ys) = 1 := by unfold orderP; rw [if_neg h1, if_pos h]
theorem orderP_eq (x : List UInt8) (xs ys : List (List UInt8)) : orderP (x :: xs) (x :: ys) = orderP xs ys := by
  show (if x < x then (-1 : Int) else if x < x then 1 else orderP xs ys) = _
  rw [if_neg (lt_irrefl' x), if_neg (lt_irrefl' x)]
theorem orderP_nil {l : List (List UInt8)} (h : l ≠ []) : orderP [] l = -1 := by cases l; exact absurd rfl h; rfl
theorem orderP_nil' {l : List (List UInt8)} (h : l ≠ []) : orderP l [] = 1 := by cases l; exact absurd rfl h; rfl

set_option maxHeartbeats 4000000 in
theorem Order_any (a b : List UInt8) (w : World) (ha : a.length ≤ 9223372036854775807) (hb : b.length ≤ 9223372036854775807) :
    Calls Tryd.prog 11 #[.string ⟨a.toArray⟩, .string ⟨b.toArray⟩] w (Ret w (.int .i64 (orderM a b))) := by
  go_enter Tryd.func11, Tryd.ntmps11
  go_wp2_with (fail)
  go_loopw [0, 1] (fun t0 t1 W => ∃ x y : List UInt8, t0 = .string ⟨x.toArray⟩ ∧ t1 = .string ⟨y.toArray⟩ ∧ x.length ≤ 9223372036854775807 ∧ y.length ≤ 9223372036854775807 ∧ Hid (orderM a b = orderM x y) ∧ Hid (Below w.heap.size w W)) (fun t0 _ _ => match t0 with | .string s => s.size | _ => 0)
  case atStart => exact ⟨a, b, rfl, rfl, ha, hb, Lib.hid rfl, Lib.hid (Below.refl _ _)⟩
  case round =>
    obtain ⟨x, y, rfl, rfl, hx, hy, HO, HB⟩ := hrel
    cases hxy : x == y with
    | true =>
      have HE := Lib.hid (show orderM x y = 0 by rw [beq_iff_eq] at hxy; rw [hxy]; exact orderP_self _)
      go_wp2_with (fail)
      go_ret
      exact ⟨by rw [HO.out, HE.out]; rfl, HB.out⟩
    | false =>
      have HNE := Lib.hid (show x ≠ y by simpa using hxy)
      by_cases h1 : 47 ∈ x
      · by_cases h2 : 47 ∈ y
        · obtain ⟨p, r, rfl, hp⟩ := first_c x h1
          have hpx := parts_first p r hp
          have HCX := Lib.hid (fun W => Cut_hit p r W hp hx)
          obtain ⟨q, s, rfl, hq⟩ := first_c y h2
          have hpy := parts_first q s hq
          have HCY := Lib.hid (fun W => Cut_hit q s W hq hy)
          have hx2 : p.length + 1 + r.length ≤ 9223372036854775807 := by simp at hx; omega
          have hy2 : q.length + 1 + s.length ≤ 9223372036854775807 := by simp at hy; omega
          have hor : orderM (p ++ 47 :: r) (q ++ 47 :: s) = orderP (p :: (parts r)) (q :: (parts s)) := by unfold orderM; rw [hpx, hpy]
          have hC := fun W => Compare_any p q W
          rcases cmp_cases p q with ⟨c1, cv⟩ | ⟨c1, c2, cv⟩ | ⟨c1, cv⟩
          · have HR := Lib.hid (hor.trans (orderP_lt _ _ c1))
            rw [cv] at hC
            have HC := Lib.hid hC
            clear hor hpx hpy cv h1 h2 hp hq c1 hC
            go_wp2_with (fail)
            refine (HCX.out wr).mono ?_
            rintro e w1 ⟨rfl, hw1⟩
            have hb1 := HB.out.trans (hw1.mono HB.out.size)
            clear hw1
            go_wp2_with (fail)
            refine (HCY.out w1).mono ?_
            rintro e w2 ⟨rfl, hw2⟩
            have hb2 := hb1.trans (hw2.mono hb1.size)
            clear hw2 hb1
            go_wp2_with (fail)
            refine (HC.out w2).mono ?_
            rintro e w3 ⟨rfl, hw3⟩
            have HB3 := Lib.hid (hb2.trans (hw3.mono hb2.size))
            clear hw3 hb2
            go_wp2_with (fail)
            go_ret
            exact ⟨by rw [HO.out, HR.out]; rfl, HB3.out⟩
          · have HR := Lib.hid (hor.trans (orderP_gt _ _ c1 c2))
            rw [cv] at hC
            have HC := Lib.hid hC
            clear hor hpx hpy cv h1 h2 hp hq c1 c2 hC
            go_wp2_with (fail)
            refine (HCX.out wr).mono ?_
            rintro e w1 ⟨rfl, hw1⟩
            have hb1 := HB.out.trans (hw1.mono HB.out.size)
            clear hw1
            go_wp2_with (fail)
            refine (HCY.out w1).mono ?_
            rintro e w2 ⟨rfl, hw2⟩
            have hb2 := hb1.trans (hw2.mono hb1.size)
            clear hw2 hb1
            go_wp2_with (fail)
            refine (HC.out w2).mono ?_
            rintro e w3 ⟨rfl, hw3⟩
            have HB3 := Lib.hid (hb2.trans (hw3.mono hb2.size))
            clear hw3 hb2
            go_wp2_with (fail)
            go_ret
            exact ⟨by rw [HO.out, HR.out]; rfl, HB3.out⟩
          · have HR := Lib.hid (hor.trans (show orderP (p :: parts r) (q :: parts s) = orderM r s by rw [c1]; exact orderP_eq _ _ _))
            rw [cv] at hC
            have HC := Lib.hid hC
            clear hor hpx hpy cv h1 h2 hp hq c1 hC
            go_wp2_with (fail)
            refine (HCX.out wr).mono ?_
            rintro e w1 ⟨rfl, hw1⟩
            have hb1 := HB.out.trans (hw1.mono HB.out.size)
            clear hw1
            go_wp2_with (fail)
            refine (HCY.out w1).mono ?_
            rintro e w2 ⟨rfl, hw2⟩
            have hb2 := hb1.trans (hw2.mono hb1.size)
            clear hw2 hb1
            go_wp2_with (fail)
            refine (HC.out w2).mono ?_
            rintro e w3 ⟨rfl, hw3⟩
            have HB3 := Lib.hid (hb2.trans (hw3.mono hb2.size))
            clear hw3 hb2
            go_wp2_with (fail)
            go_roundw
            case rel => exact ⟨r, s, rfl, rfl, by omega, by omega, Lib.hid (by rw [HO.out, HR.out]), HB3⟩
            case measure => simp [ByteArray.size]; omega

        · obtain ⟨p, r, rfl, hp⟩ := first_c x h1
          have hpx := parts_first p r hp
          have HCX := Lib.hid (fun W => Cut_hit p r W hp hx)
          have hpy := parts_none y h2
          have HCY := Lib.hid (fun W => Cut_miss y W h2 hy)
          have hx2 : p.length + 1 + r.length ≤ 9223372036854775807 := by simp at hx; omega
          have hor : orderM (p ++ 47 :: r) y = orderP (p :: (parts r)) (y :: []) := by unfold orderM; rw [hpx, hpy]
          have hC := fun W => Compare_any p y W
          rcases cmp_cases p y with ⟨c1, cv⟩ | ⟨c1, c2, cv⟩ | ⟨c1, cv⟩
          · have HR := Lib.hid (hor.trans (orderP_lt _ _ c1))
            rw [cv] at hC
            have HC := Lib.hid hC
            clear hor hpx hpy cv h1 h2 hp c1 hC
            go_wp2_with (fail)
            refine (HCX.out wr).mono ?_
            rintro e w1 ⟨rfl, hw1⟩
            have hb1 := HB.out.trans (hw1.mono HB.out.size)
            clear hw1
            go_wp2_with (fail)
            refine (HCY.out w1).mono ?_
            rintro e w2 ⟨rfl, hw2⟩
            have hb2 := hb1.trans (hw2.mono hb1.size)
            clear hw2 hb1
            go_wp2_with (fail)
            refine (HC.out w2).mono ?_
            rintro e w3 ⟨rfl, hw3⟩
            have HB3 := Lib.hid (hb2.trans (hw3.mono hb2.size))
            clear hw3 hb2
            go_wp2_with (fail)
            go_ret
            exact ⟨by rw [HO.out, HR.out]; rfl, HB3.out⟩
          · have HR := Lib.hid (hor.trans (orderP_gt _ _ c1 c2))
            rw [cv] at hC
            have HC := Lib.hid hC
            clear hor hpx hpy cv h1 h2 hp c1 c2 hC
            go_wp2_with (fail)
            refine (HCX.out wr).mono ?_
            rintro e w1 ⟨rfl, hw1⟩
            have hb1 := HB.out.trans (hw1.mono HB.out.size)
            clear hw1
            go_wp2_with (fail)
            refine (HCY.out w1).mono ?_
            rintro e w2 ⟨rfl, hw2⟩
            have hb2 := hb1.trans (hw2.mono hb1.size)
            clear hw2 hb1
            go_wp2_with (fail)
            refine (HC.out w2).mono ?_
            rintro e w3 ⟨rfl, hw3⟩
            have HB3 := Lib.hid (hb2.trans (hw3.mono hb2.size))
            clear hw3 hb2
            go_wp2_with (fail)
            go_ret
            exact ⟨by rw [HO.out, HR.out]; rfl, HB3.out⟩
          · have HR := Lib.hid (hor.trans (show orderP (p :: parts r) (y :: []) = 1 by rw [c1, orderP_eq]; exact orderP_nil' (parts_ne r)))
            rw [cv] at hC
            have HC := Lib.hid hC
            clear hor hpx hpy cv h1 h2 hp c1 hC
            go_wp2_with (fail)
            refine (HCX.out wr).mono ?_
            rintro e w1 ⟨rfl, hw1⟩
            have hb1 := HB.out.trans (hw1.mono HB.out.size)
            clear hw1
            go_wp2_with (fail)
            refine (HCY.out w1).mono ?_
            rintro e w2 ⟨rfl, hw2⟩
            have hb2 := hb1.trans (hw2.mono hb1.size)
            clear hw2 hb1
            go_wp2_with (fail)
            refine (HC.out w2).mono ?_
            rintro e w3 ⟨rfl, hw3⟩
            have HB3 := Lib.hid (hb2.trans (hw3.mono hb2.size))
            clear hw3 hb2
            go_wp2_with (fail)
            go_ret
            exact ⟨by rw [HO.out, HR.out]; rfl, HB3.out⟩

      · by_cases h2 : 47 ∈ y
        · have hpx := parts_none x h1
          have HCX := Lib.hid (fun W => Cut_miss x W h1 hx)
          obtain ⟨q, s, rfl, hq⟩ := first_c y h2
          have hpy := parts_first q s hq
          have HCY := Lib.hid (fun W => Cut_hit q s W hq hy)
          have hy2 : q.length + 1 + s.length ≤ 9223372036854775807 := by simp at hy; omega
          have hor : orderM x (q ++ 47 :: s) = orderP (x :: []) (q :: (parts s)) := by unfold orderM; rw [hpx, hpy]
          have hC := fun W => Compare_any x q W
          rcases cmp_cases x q with ⟨c1, cv⟩ | ⟨c1, c2, cv⟩ | ⟨c1, cv⟩
          · have HR := Lib.hid (hor.trans (orderP_lt _ _ c1))
            rw [cv] at hC
            have HC := Lib.hid hC
            clear hor hpx hpy cv h1 h2 hq c1 hC
            go_wp2_with (fail)
            refine (HCX.out wr).mono ?_
            rintro e w1 ⟨rfl, hw1⟩
            have hb1 := HB.out.trans (hw1.mono HB.out.size)
            clear hw1
            go_wp2_with (fail)
            refine (HCY.out w1).mono ?_
            rintro e w2 ⟨rfl, hw2⟩
            have hb2 := hb1.trans (hw2.mono hb1.size)
            clear hw2 hb1
            go_wp2_with (fail)
            refine (HC.out w2).mono ?_
            rintro e w3 ⟨rfl, hw3⟩
            have HB3 := Lib.hid (hb2.trans (hw3.mono hb2.size))
            clear hw3 hb2
            go_wp2_with (fail)
            go_ret
            exact ⟨by rw [HO.out, HR.out]; rfl, HB3.out⟩
          · have HR := Lib.hid (hor.trans (orderP_gt _ _ c1 c2))
            rw [cv] at hC
            have HC := Lib.hid hC
            clear hor hpx hpy cv h1 h2 hq c1 c2 hC
            go_wp2_with (fail)
            refine (HCX.out wr).mono ?_
            rintro e w1 ⟨rfl, hw1⟩
            have hb1 := HB.out.trans (hw1.mono HB.out.size)
            clear hw1
            go_wp2_with (fail)
            refine (HCY.out w1).mono ?_
            rintro e w2 ⟨rfl, hw2⟩
            have hb2 := hb1.trans (hw2.mono hb1.size)
            clear hw2 hb1
            go_wp2_with (fail)
            refine (HC.out w2).mono ?_
            rintro e w3 ⟨rfl, hw3⟩
            have HB3 := Lib.hid (hb2.trans (hw3.mono hb2.size))
            clear hw3 hb2
            go_wp2_with (fail)
            go_ret
            exact ⟨by rw [HO.out, HR.out]; rfl, HB3.out⟩
          · have HR := Lib.hid (hor.trans (show orderP (x :: []) (q :: parts s) = -1 by rw [c1, orderP_eq]; exact orderP_nil (parts_ne s)))
            rw [cv] at hC
            have HC := Lib.hid hC
            clear hor hpx hpy cv h1 h2 hq c1 hC
            go_wp2_with (fail)
            refine (HCX.out wr).mono ?_
            rintro e w1 ⟨rfl, hw1⟩
            have hb1 := HB.out.trans (hw1.mono HB.out.size)
            clear hw1
            go_wp2_with (fail)
            refine (HCY.out w1).mono ?_
            rintro e w2 ⟨rfl, hw2⟩
            have hb2 := hb1.trans (hw2.mono hb1.size)
            clear hw2 hb1
            go_wp2_with (fail)
            refine (HC.out w2).mono ?_
            rintro e w3 ⟨rfl, hw3⟩
            have HB3 := Lib.hid (hb2.trans (hw3.mono hb2.size))
            clear hw3 hb2
            go_wp2_with (fail)
            go_ret
            exact ⟨by rw [HO.out, HR.out]; rfl, HB3.out⟩

        · have hpx := parts_none x h1
          have HCX := Lib.hid (fun W => Cut_miss x W h1 hx)
          have hpy := parts_none y h2
          have HCY := Lib.hid (fun W => Cut_miss y W h2 hy)
          have hor : orderM x y = orderP (x :: []) (y :: []) := by unfold orderM; rw [hpx, hpy]
          have hC := fun W => Compare_any x y W
          rcases cmp_cases x y with ⟨c1, cv⟩ | ⟨c1, c2, cv⟩ | ⟨c1, cv⟩
          · have HR := Lib.hid (hor.trans (orderP_lt _ _ c1))
            rw [cv] at hC
            have HC := Lib.hid hC
            clear hor hpx hpy cv h1 h2 c1 hC
            go_wp2_with (fail)
            refine (HCX.out wr).mono ?_
            rintro e w1 ⟨rfl, hw1⟩
            have hb1 := HB.out.trans (hw1.mono HB.out.size)
            clear hw1
            go_wp2_with (fail)
            refine (HCY.out w1).mono ?_
            rintro e w2 ⟨rfl, hw2⟩
            have hb2 := hb1.trans (hw2.mono hb1.size)
            clear hw2 hb1
            go_wp2_with (fail)
            refine (HC.out w2).mono ?_
            rintro e w3 ⟨rfl, hw3⟩
            have HB3 := Lib.hid (hb2.trans (hw3.mono hb2.size))
            clear hw3 hb2
            go_wp2_with (fail)
            go_ret
            exact ⟨by rw [HO.out, HR.out]; rfl, HB3.out⟩
          · have HR := Lib.hid (hor.trans (orderP_gt _ _ c1 c2))
            rw [cv] at hC
            have HC := Lib.hid hC
            clear hor hpx hpy cv h1 h2 c1 c2 hC
            go_wp2_with (fail)
            refine (HCX.out wr).mono ?_
            rintro e w1 ⟨rfl, hw1⟩
            have hb1 := HB.out.trans (hw1.mono HB.out.size)
            clear hw1
            go_wp2_with (fail)
            refine (HCY.out w1).mono ?_
            rintro e w2 ⟨rfl, hw2⟩
            have hb2 := hb1.trans (hw2.mono hb1.size)
            clear hw2 hb1
            go_wp2_with (fail)
            refine (HC.out w2).mono ?_
            rintro e w3 ⟨rfl, hw3⟩
            have HB3 := Lib.hid (hb2.trans (hw3.mono hb2.size))
            clear hw3 hb2
            go_wp2_with (fail)
            go_ret
            exact ⟨by rw [HO.out, HR.out]; rfl, HB3.out⟩
          · exact absurd c1 HNE.out

end Go.Proofs.YtpfpjinkifggdaaDoor
