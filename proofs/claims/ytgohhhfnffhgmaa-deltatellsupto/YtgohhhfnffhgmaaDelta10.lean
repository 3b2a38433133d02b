/- delta.Apply. -/
import Derived.Test.YtgohhhfnffhgmaaDelta9
import Derived.Test.YtgohhhfnffhgmaaPlainDelta4
import Derived.Test.YtgohhhfnffhgmaaBuilder
import Derived.Test.YtgohhhfnffhgmaaOpen3
namespace Go.Proofs.Ytgohhhfnffhgmaa
open Go.RowKit Plain

theorem below_alloc' (w : World) (o : Obj) : Below w.heap.size w (w.alloc o) := (Below.refl _ _).alloc (Nat.le_refl _) o
/-- an own row among what may be read -/
theorem rows_of_own {w : World} {base : Nat} {A : Option Addr} {c : Nat} {l : List Stp} (h : OpsAt w base (.slice A l.length c) l) : IsRows w 3 A (l.map stpV) := by
  intro k hk
  have hk' : k < l.length := by simpa using hk
  obtain ⟨g, c', e, -⟩ := rowsE_some h (by omega)
  injection e with e1 e2 e3
  subst e1 e3
  refine ⟨_, rfl, fun j u hu => ?_⟩
  have e1 : (l.map stpV)[k] = stpV l[k] := by simp
  rw [e1] at hu
  have hj : j < 3 := by have := (List.getElem?_eq_some_iff.1 hu).1; rwa [stpV_length] at this
  have h1 := rowsE_cell stpV_length h hk' hj
  have e2 : (⟨g, 0, none⟩ : Addr).add (k * 3 + j) = ⟨g, k * 3 + j, none⟩ := by unfold Addr.add; split <;> simp_all
  rw [e2, h1, hu]
/-- the steps are of int's and strings' range -/
def OkI (o : Stp) : Prop := -9223372036854775808 ≤ o.from' ∧ o.from' ≤ 9223372036854775807 ∧ -9223372036854775808 ≤ o.count ∧ o.count ≤ 9223372036854775807 ∧ o.t.length ≤ 1099511627776

set_option maxRecDepth 100000 in
set_option maxHeartbeats 4000000 in
theorem Apply_any (A : Option Addr) (ca : Nat) (l : List Stp) (base : List UInt8) (size : Nat) (w : World) (hL : IsRows w 3 A (l.map stpV)) (hok : ∀ o ∈ l, OkI o) (hs : 1 ≤ size) (hs2 : size ≤ 65536) (hb : base.length ≤ 1099511627776) (hl : l.length ≤ 4294967296) :
    Calls Try.prog 12 #[.string ⟨base.toArray⟩, .int .i64 (size : Nat), .slice A l.length ca] w (Ret w (.tuple #[.string ⟨(applyP base size l []).1.toArray⟩, .int .i64 ((applyP base size l []).2 : Nat)])) := by
  have HL := Lib.hid hL
  have HOK := Lib.hid hok
  have hN := countB_le (n := base.length) hs
  have hNS : countB base.length size * size ≤ base.length + size - 1 := by unfold countB; exact Nat.div_mul_le_self _ _
  have hdv : ((base.length : Int) + (size : Int) - 1) / (size : Int) = (countB base.length size : Nat) := by
    unfold countB
    rw [show (base.length : Int) + (size : Int) - 1 = ((base.length + size - 1 : Nat) : Int) by omega]
    push_cast; rfl
  generalize hNN : countB base.length size = N at *
  have HNN := Lib.hid hNN
  clear hL hok hNN
  go_enter Try.func12, Try.ntmps12
  go_wp2_with (fail)
  refine (odd_good size _ (by omega) (by omega)).mono ?_
  rintro e w1 ⟨rfl, hb1⟩
  have HB1 := Lib.hid hb1
  have hfb := fresh_builder w1
  clear hb1
  go_wp2_with (fail)
  have hfb2 : Lib.IsBuilderF 70 5 w.heap.size w1.heap.size (Lib.byteCells []) (w1.alloc (.cells #[.pointer none, .slice none 0 0] 70)) := by
    rcases hfb with h | h
    · obtain ⟨h1, v, h2, h3, h4⟩ := h
      exact .inl ⟨HB1.out.size, v, h2, by exact ⟨h3.1, h3.2.imp id fun ⟨g, cap, cur, fz, hv, hg, hr⟩ => ⟨g, cap, cur, fz, hv, Nat.le_trans HB1.out.size hg, hr⟩⟩, h4⟩
    · obtain ⟨h1, v, h2, h3, h4⟩ := h
      exact .inr ⟨HB1.out.size, v, h2, by exact ⟨h3.1, h3.2.imp id fun ⟨g, cap, cur, fz, hv, hg, hr⟩ => ⟨g, cap, cur, fz, hv, Nat.le_trans HB1.out.size hg, hr⟩⟩, h4⟩
  have HBL0 := Lib.hid hfb2
  have HB0 := Lib.hid (HB1.out.alloc HB1.out.size (.cells #[.pointer none, .slice none 0 0] 70))
  have hw1s := HB1.out.size
  clear hfb hfb2 HB1
  rw [hdv]
  go_loopw [11, 12, 24, 56, 75] (fun _ _ t24 _ _ W => ∃ (k : Nat) (out : List UInt8), k ≤ l.length ∧ t24 = .int .i64 (k : Nat) ∧ out.length ≤ 65536 ∧ Hid (Lib.IsBuilderF 70 5 w.heap.size w1.heap.size (Lib.byteCells out) W) ∧ Hid (Below w.heap.size w W) ∧ Hid (applyP base size l [] = applyP base size (l.drop k) out)) (fun _ _ t24 _ _ _ => l.length - (intOf t24).toNat)
  case atStart => exact ⟨0, [], by omega, rfl, by simp, HBL0, HB0, Lib.hid rfl⟩
  case round =>
    clear HBL0 HB0
    obtain ⟨k, out, hk, rfl, hout, HBL, HB, HRES⟩ := hrel
    by_cases hlt : k < l.length
    · obtain ⟨ad, rfl, hc0, hcs⟩ := (HL.out.below HB.out).at_ (k := k) (by simpa using hlt)
      have hrow : (l.map stpV)[k]'(by simpa using hlt) = stpV l[k] := by simp
      rw [hrow] at hc0 hcs
      have hokx := HOK.out l[k] (List.getElem_mem hlt)
      have hat : l[k] = l[k] := rfl
      generalize hx0 : l[k] = x at hc0 hcs hokx
      obtain ⟨f, c, t⟩ := x
      have a0 := hc0 _ rfl
      have a1 := hcs 0 _ rfl
      have a2 := hcs 1 _ rfl
      obtain ⟨o1, o2, o3, o4, o5⟩ := hokx
      simp only at o1 o2 o3 o4 o5
      have HAT := Lib.hid hx0.symm
      clear hc0 hcs hrow hat hx0
      have k1 : (0 : Int) ≤ (k : Int) := by omega
      have k2 : (k : Int) < (l.length : Int) := by omega
      by_cases q1 : 0 < c
      case pos =>
        have b1 : decide ((0 : Int) < c) = true := decide_eq_true q1
        have b1' : (c == (0 : Int)) = false := by rw [beq_eq_false_iff_ne]; omega
        cases t with
        | cons t0 tr =>
          have HR := Lib.hid (applyP_none (base := base) (size := size) (out := out) hlt (HAT.out ▸ more_none (fun h => absurd (copies_iff.1 h) (fun q => by have := q.2.1; simp at this)) (fun h => absurd (says_iff.1 h) (fun q => by have := q.1; simp only at this; omega))))
          go_wp2_with (fail)
          go_ret2
          exact ⟨by rw [HRES.out, HR.out]; rfl, HB.out.alloc HB.out.size _⟩
        | nil =>
          by_cases q3 : 0 ≤ f
          case neg =>
            have b3 : decide ((0 : Int) ≤ f) = false := decide_eq_false q3
            have HR := Lib.hid (applyP_none (base := base) (size := size) (out := out) hlt (HAT.out ▸ more_none (fun h => absurd (copies_iff.1 h) (fun q => q3 q.2.2.1)) (fun h => absurd (says_iff.1 h) (fun q => by have := q.1; simp only at this; omega))))
            go_wp2_with (fail)
            go_ret2
            exact ⟨by rw [HRES.out, HR.out]; rfl, HB.out.alloc HB.out.size _⟩
          case pos =>
            have b3 : decide ((0 : Int) ≤ f) = true := decide_eq_true q3
            obtain ⟨fn, rfl⟩ := Int.eq_ofNat_of_zero_le q3
            obtain ⟨cn, rfl⟩ := Int.eq_ofNat_of_zero_le (show 0 ≤ c by omega)
            by_cases q4 : fn < N
            case neg =>
              have b4 : decide ((fn : Int) < (N : Int)) = false := decide_eq_false (by omega)
              have HR := Lib.hid (applyP_none (base := base) (size := size) (out := out) hlt (HAT.out ▸ more_none (fun h => absurd (copies_iff.1 h) (fun q => by have := q.2.2.2.1; rw [HNN.out] at this; simp only at this; omega)) (fun h => absurd (says_iff.1 h) (fun q => by have := q.1; simp only at this; omega))))
              go_wp2_with (fail)
              go_ret2
              exact ⟨by rw [HRES.out, HR.out]; rfl, HB.out.alloc HB.out.size _⟩
            case pos =>
              have b4 : decide ((fn : Int) < (N : Int)) = true := decide_eq_true (by omega)
              by_cases q5 : cn ≤ N - fn
              case neg =>
                have b5 : decide ((cn : Int) ≤ (N : Int) - (fn : Int)) = false := decide_eq_false (by omega)
                have HR := Lib.hid (applyP_none (base := base) (size := size) (out := out) hlt (HAT.out ▸ more_none (fun h => absurd (copies_iff.1 h) (fun q => by have := q.2.2.2.2; rw [HNN.out] at this; simp only at this; omega)) (fun h => absurd (says_iff.1 h) (fun q => by have := q.1; simp only at this; omega))))
                go_wp2_with (fail)
                go_ret2
                exact ⟨by rw [HRES.out, HR.out]; rfl, HB.out.alloc HB.out.size _⟩
              case pos =>
                have b5 : decide ((cn : Int) ≤ (N : Int) - (fn : Int)) = true := decide_eq_true (by omega)
                have m1 : (fn + cn) * size ≤ N * size := Nat.mul_le_mul_right size (by omega)
                have m2 : fn * size + size ≤ N * size := by
                  have := Nat.mul_le_mul_right size (show fn + 1 ≤ N by omega)
                  rwa [Nat.add_mul, Nat.one_mul] at this
                obtain ⟨P, hP⟩ : ∃ P, P = fn * size := ⟨_, rfl⟩
                obtain ⟨R, hR⟩ : ∃ R, R = (fn + cn) * size := ⟨_, rfl⟩
                have hPR : P ≤ R := by rw [hP, hR]; exact Nat.mul_le_mul_right size (by omega)
                have e1 : (fn : Int) * (size : Int) = (P : Nat) := by rw [hP]; push_cast; rfl
                have e2 : ((fn : Int) + (cn : Int)) * (size : Int) = (R : Nat) := by rw [hR]; push_cast; rfl
                obtain ⟨E, hE⟩ : ∃ E, E = min R base.length := ⟨_, rfl⟩
                have hcut := cutP_go (base := base) (size := size) (f := fn) (c := cn) (E := E) (by rw [hE, hR])
                rw [← hP] at hcut m2
                rw [← hR] at m1
                have hPE : P ≤ E := by omega
                have hEl : E ≤ base.length := by omega
                have hmin : min (R : Int) (base.length : Int) = (E : Nat) := by omega
                have HCUT := Lib.hid hcut
                have HXL := Lib.hid (show (out ++ (base.drop P).take (E - P)).length ≤ 65536 + base.length by simp; omega)
                have HMC := Lib.hid (show moreP base size ⟨fn, cn, []⟩ = some ((base.drop P).take (E - P)) by rw [← HCUT.out]; exact more_copies (base := base) (size := size) (by rw [copies_iff, HNN.out]; exact ⟨q1, rfl, q3, by show (fn : Int) < N; omega, by show (cn : Int) ≤ (N : Int) - (fn : Int); omega⟩))
                clear hcut hE hP hR
                generalize hxx : (base.drop P).take (E - P) = xx at *
                have hx : (out ++ xx).length ≤ 1099511693312 := by have := HXL.out; simp at this ⊢; omega
                have HMORE := Lib.hid (HMC.out)
                have hbl2 := builder_below HBL.out (below_alloc' wr (.cells (stpV ⟨fn, cn, []⟩).toArray 46))
                have HBA := Lib.hid (HB.out.alloc HB.out.size (.cells (stpV ⟨fn, cn, []⟩).toArray 46))
                have HW := Lib.hid (fun W h hW => WriteString_list w.heap.size w1.heap.size out xx W h (by simp at hx; omega) hW)
                go_wp2_with (fail)
                refine (HW.out _ hbl2 (by have := HBA.out.size; simpa using this)).mono ?_
                rintro e w3 ⟨rfl, hbl3, hb3, -⟩
                have HB3 := Lib.hid (HBA.out.trans hb3)
                clear hbl2 hb3 HW HBA
                go_wp2_with (fail)
                refine (Try.Builder_Len_f _ _ _ _ hbl3).mono ?_
                rintro e w4 ⟨rfl, rfl⟩
                rw [Lib.byteCells_length]
                by_cases hbig : 65536 < (out ++ xx).length
                · have d1 : decide ((65536 : Int) < (out.length : Int) + (xx.length : Int)) = true := decide_eq_true (by simp at hbig; omega)
                  have HR := Lib.hid (applyP_much hlt (HAT.out ▸ HMORE.out) hbig)
                  go_wp2_with (fail)
                  go_ret2
                  exact ⟨by rw [HRES.out, HR.out]; rfl, HB3.out⟩
                · have d1 : decide ((65536 : Int) < (out.length : Int) + (xx.length : Int)) = false := decide_eq_false (by simp at hbig; omega)
                  have HR := Lib.hid (HRES.out.trans (applyP_on hlt (HAT.out ▸ HMORE.out) hbig))
                  go_wp2_with (fail)
                  go_roundw
                  case rel => exact ⟨k + 1, out ++ xx, by omega, by go_num, by omega, Lib.hid hbl3, HB3, HR⟩
                  case measure => simp [intOf]; omega
      case neg =>
        have b1 : decide ((0 : Int) < c) = false := decide_eq_false q1
        by_cases q2 : c = 0
        case neg =>
          have b2 : (c == (0 : Int)) = false := by rw [beq_eq_false_iff_ne]; exact q2
          have HR := Lib.hid (applyP_none (base := base) (size := size) (out := out) hlt (HAT.out ▸ more_none (fun h => absurd (copies_iff.1 h) (fun q => q1 q.1)) (fun h => absurd (says_iff.1 h) (fun q => q2 q.1))))
          go_wp2_with (fail)
          go_ret2
          exact ⟨by rw [HRES.out, HR.out]; rfl, HB.out.alloc HB.out.size _⟩
        case pos =>
          subst q2
          by_cases q3 : f = 0
          case neg =>
            have b3 : (f == (0 : Int)) = false := by rw [beq_eq_false_iff_ne]; exact q3
            have HR := Lib.hid (applyP_none (base := base) (size := size) (out := out) hlt (HAT.out ▸ more_none (fun h => absurd (copies_iff.1 h) (fun q => q1 q.1)) (fun h => absurd (says_iff.1 h) (fun q => q3 q.2.1))))
            go_wp2_with (fail)
            go_ret2
            exact ⟨by rw [HRES.out, HR.out]; rfl, HB.out.alloc HB.out.size _⟩
          case pos =>
            subst q3
            cases t with
            | nil =>
              have HR := Lib.hid (applyP_none (base := base) (size := size) (out := out) hlt (HAT.out ▸ more_none (fun h => absurd (copies_iff.1 h) (fun q => q1 q.1)) (fun h => absurd (says_iff.1 h) (fun q => q.2.2 rfl))))
              go_wp2_with (fail)
              go_ret2
              exact ⟨by rw [HRES.out, HR.out]; rfl, HB.out.alloc HB.out.size _⟩
            | cons t0 tr =>
              have HXL := Lib.hid (show (out ++ (t0 :: tr)).length ≤ 65536 + (t0 :: tr).length by simp; omega)
              have hte : (t0 :: tr).isEmpty = false := rfl
              have HMS := Lib.hid (show moreP base size ⟨0, 0, t0 :: tr⟩ = some (t0 :: tr) from more_says (o := ⟨0, 0, t0 :: tr⟩) (fun h => absurd (copies_iff.1 h).1 q1) (by rw [says_iff]; exact ⟨rfl, rfl, by simp⟩))
              generalize t0 :: tr = t at *
              have hx : (out ++ t).length ≤ 1099511693312 := by have := HXL.out; simp at this ⊢; omega
              have HMORE := Lib.hid (HMS.out)
              have hbl2 := builder_below HBL.out (below_alloc' wr (.cells (stpV ⟨0, 0, t⟩).toArray 46))
              have HBA := Lib.hid (HB.out.alloc HB.out.size (.cells (stpV ⟨0, 0, t⟩).toArray 46))
              have HW := Lib.hid (fun W h hW => WriteString_list w.heap.size w1.heap.size out t W h (by simp at hx; omega) hW)
              go_wp2_with (fail)
              refine (HW.out _ hbl2 (by have := HBA.out.size; simpa using this)).mono ?_
              rintro e w3 ⟨rfl, hbl3, hb3, -⟩
              have HB3 := Lib.hid (HBA.out.trans hb3)
              clear hbl2 hb3 HW HBA
              go_wp2_with (fail)
              refine (Try.Builder_Len_f _ _ _ _ hbl3).mono ?_
              rintro e w4 ⟨rfl, rfl⟩
              rw [Lib.byteCells_length]
              by_cases hbig : 65536 < (out ++ t).length
              · have d1 : decide ((65536 : Int) < (out.length : Int) + (t.length : Int)) = true := decide_eq_true (by simp at hbig; omega)
                have HR := Lib.hid (applyP_much hlt (HAT.out ▸ HMORE.out) hbig)
                go_wp2_with (fail)
                go_ret2
                exact ⟨by rw [HRES.out, HR.out]; rfl, HB3.out⟩
              · have d1 : decide ((65536 : Int) < (out.length : Int) + (t.length : Int)) = false := decide_eq_false (by simp at hbig; omega)
                have HR := Lib.hid (HRES.out.trans (applyP_on hlt (HAT.out ▸ HMORE.out) hbig))
                go_wp2_with (fail)
                go_roundw
                case rel => exact ⟨k + 1, out ++ t, by omega, by go_num, by omega, Lib.hid hbl3, HB3, HR⟩
                case measure => simp [intOf]; omega
    · obtain rfl : k = l.length := by omega
      have HR := Lib.hid (HRES.out.trans applyP_end)
      have hbl := HBL.out
      go_wp2_with (fail)
      refine (Try.Builder_String_any_f _ _ _ _ hbl HB.out.size).mono ?_
      rintro e w3 ⟨rfl, -, hb3⟩
      go_wp2_with (fail)
      go_ret2
      exact ⟨by rw [HR.out]; rfl, HB.out.trans hb3⟩
end Go.Proofs.Ytgohhhfnffhgmaa
