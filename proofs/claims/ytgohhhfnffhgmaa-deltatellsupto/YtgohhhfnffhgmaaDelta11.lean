/- The document's Apply. -/
import Derived.Test.YtgohhhfnffhgmaaDelta10
import Derived.Test.YtgohhhfnffhgmaaDelta3
namespace Go.Proofs.Ytgohhhfnffhgmaa
open Go.RowKit Plain

set_option maxRecDepth 100000 in
set_option maxHeartbeats 4000000 in
theorem Apply_ref (A : Option Addr) (ca : Nat) (l : List Stp) (base : List UInt8) (size : Nat) (w : World) (hL : IsRows w 3 A (l.map stpV)) (hok : ∀ o ∈ l, OkI o) (hs : 1 ≤ size) (hs2 : size ≤ 65536) (hb : base.length ≤ 1048576) (hl : l.length ≤ 4294967296) :
    Calls Try.prog 13 #[.string ⟨base.toArray⟩, .int .i64 (size : Nat), .slice A l.length ca] w (Ret w (.tuple #[.string ⟨(applyP base size l []).1.toArray⟩, .int .i64 ((applyP base size l []).2 : Nat)])) := by
  have HL := Lib.hid hL
  have HOK := Lib.hid hok
  have hN := countB_le (n := base.length) hs
  have hNS : countB base.length size * size ≤ base.length + size - 1 := by unfold countB; exact Nat.div_mul_le_self _ _
  have hbl0 := blocks_any base size w hs hs2 hb
  have hbn := blocksP_length base size
  rw [hbn] at hbl0
  have HBN := Lib.hid hbn
  have d1 : decide ((size : Int) < 1) = false := decide_eq_false (by omega)
  have d2 : decide ((65536 : Int) < size) = false := decide_eq_false (by omega)
  clear hbn
  generalize hNN : countB base.length size = N at *
  have HNN := Lib.hid hNN
  clear hL hok hNN
  go_enter Try.func13, Try.ntmps13
  go_wp2_with (fail)
  refine hbl0.mono ?_
  rintro e w1 ⟨vb, rfl, hvb, hb1⟩
  obtain ⟨Ab, cb, hvb2, -, -, hrb⟩ := IsSlice.of_own hvb
  subst hvb2
  have HRB := Lib.hid hrb
  have HB0 := Lib.hid hb1
  clear hbl0 hvb hrb hb1
  go_wp2_with (fail)
  go_loopw [9, 10, 11, 12, 32, 78] (fun t9 t10 _ _ _ _ W => ∃ (k : Nat) (out : List UInt8), k ≤ l.length ∧ t10 = .int .i64 (k : Nat) ∧ t9 = .string ⟨out.toArray⟩ ∧ out.length ≤ 65536 ∧ Hid (Below w1.heap.size w1 W) ∧ Hid (applyP base size l [] = applyP base size (l.drop k) out)) (fun _ t10 _ _ _ _ _ => l.length - (intOf t10).toNat)
  case atStart => exact ⟨0, [], by omega, rfl, rfl, by simp, Lib.hid (Below.refl _ _), Lib.hid rfl⟩
  case round =>
    obtain ⟨k, out, hk, rfl, rfl, hout, HBW, HRES⟩ := hrel
    have HB := Lib.hid (HB0.out.trans (HBW.out.mono HB0.out.size))
    by_cases hlt : k < l.length
    · obtain ⟨ad, rfl, hc0, hcs⟩ := (HL.out.below HB.out).at_ (k := k) (by simpa using hlt)
      have hrow : (l.map stpV)[k]'(by simpa using hlt) = stpV l[k] := by simp
      rw [hrow] at hc0 hcs
      have hokx := HOK.out l[k] (List.getElem_mem hlt)
      have hat : l[k] = l[k] := rfl
      generalize hx0 : l[k] = x at hc0 hcs hokx
      obtain ⟨f, c, t⟩ := x
      have a0 := hc0 _ rfl
      have a1 := hcs 0 _ rfl
      have a2 := hcs 1 _ rfl
      obtain ⟨o1, o2, o3, o4, o5⟩ := hokx
      simp only at o1 o2 o3 o4 o5
      have HAT := Lib.hid hx0.symm
      clear hc0 hcs hrow hat hx0
      have k1 : (0 : Int) ≤ (k : Int) := by omega
      have k2 : (k : Int) < (l.length : Int) := by omega
      by_cases q1 : 0 < c
      case pos =>
        have b1 : decide ((0 : Int) < c) = true := decide_eq_true q1
        have b1' : (c == (0 : Int)) = false := by rw [beq_eq_false_iff_ne]; omega
        cases t with
        | cons t0 tr =>
          have HR := Lib.hid (applyP_none (base := base) (size := size) (out := out) hlt (HAT.out ▸ more_none (fun h => absurd (copies_iff.1 h) (fun q => by have := q.2.1; simp at this)) (fun h => absurd (says_iff.1 h) (fun q => by have := q.1; simp only at this; omega))))
          go_wp2_with (fail)
          go_ret2
          exact ⟨by rw [HRES.out, HR.out]; rfl, HB.out.alloc HB.out.size _⟩
        | nil =>
          by_cases q3 : 0 ≤ f
          case neg =>
            have b3 : decide ((0 : Int) ≤ f) = false := decide_eq_false q3
            have HR := Lib.hid (applyP_none (base := base) (size := size) (out := out) hlt (HAT.out ▸ more_none (fun h => absurd (copies_iff.1 h) (fun q => q3 q.2.2.1)) (fun h => absurd (says_iff.1 h) (fun q => by have := q.1; simp only at this; omega))))
            go_wp2_with (fail)
            go_ret2
            exact ⟨by rw [HRES.out, HR.out]; rfl, HB.out.alloc HB.out.size _⟩
          case pos =>
            have b3 : decide ((0 : Int) ≤ f) = true := decide_eq_true q3
            obtain ⟨fn, rfl⟩ := Int.eq_ofNat_of_zero_le q3
            obtain ⟨cn, rfl⟩ := Int.eq_ofNat_of_zero_le (show 0 ≤ c by omega)
            by_cases q4 : fn < N
            case neg =>
              have b4 : decide ((fn : Int) < (N : Int)) = false := decide_eq_false (by omega)
              have HR := Lib.hid (applyP_none (base := base) (size := size) (out := out) hlt (HAT.out ▸ more_none (fun h => absurd (copies_iff.1 h) (fun q => by have := q.2.2.2.1; rw [HNN.out] at this; simp only at this; omega)) (fun h => absurd (says_iff.1 h) (fun q => by have := q.1; simp only at this; omega))))
              go_wp2_with (fail)
              go_ret2
              exact ⟨by rw [HRES.out, HR.out]; rfl, HB.out.alloc HB.out.size _⟩
            case pos =>
              have b4 : decide ((fn : Int) < (N : Int)) = true := decide_eq_true (by omega)
              by_cases q5 : cn ≤ N - fn
              case neg =>
                have b5 : decide ((cn : Int) ≤ (N : Int) - (fn : Int)) = false := decide_eq_false (by omega)
                have HR := Lib.hid (applyP_none (base := base) (size := size) (out := out) hlt (HAT.out ▸ more_none (fun h => absurd (copies_iff.1 h) (fun q => by have := q.2.2.2.2; rw [HNN.out] at this; simp only at this; omega)) (fun h => absurd (says_iff.1 h) (fun q => by have := q.1; simp only at this; omega))))
                go_wp2_with (fail)
                go_ret2
                exact ⟨by rw [HRES.out, HR.out]; rfl, HB.out.alloc HB.out.size _⟩
              case pos =>
                have b5 : decide ((cn : Int) ≤ (N : Int) - (fn : Int)) = true := decide_eq_true (by omega)
                have HMC := Lib.hid (show moreP base size ⟨fn, cn, []⟩ = some (cutP base size fn cn) from more_copies (base := base) (size := size) (by rw [copies_iff, HNN.out]; exact ⟨q1, rfl, q3, by show (fn : Int) < N; omega, by show (cn : Int) ≤ (N : Int) - (fn : Int); omega⟩))
                have HBA := Lib.hid (HB.out.alloc HB.out.size (.cells (stpV ⟨fn, cn, []⟩).toArray 46))
                obtain ⟨W4, hW4⟩ : ∃ W4, W4 = wr.alloc (.cells (stpV ⟨fn, cn, []⟩).toArray 46) := ⟨_, rfl⟩
                have hb4 : Below wr.heap.size wr W4 := by rw [hW4]; exact below_alloc' wr _
                have hrw := HRB.out.below (HBW.out.trans (hb4.mono HBW.out.size))
                have hal : W4.heap[wr.heap.size]? = some (.cells (stpV ⟨fn, cn, []⟩).toArray 46 (0, 0)) := by rw [hW4]; exact heap_alloc_new wr _
                have p0 := cell_of_row _ wr.heap.size 0 _ _ _ hal
                have p1 := cell_of_row _ wr.heap.size 1 _ _ _ hal
                simp [stpV] at p0 p1
                obtain ⟨adb, hadb, -⟩ := hrw.2 (by omega)
                subst hadb
                have HRW := Lib.hid hrw
                have HP := Lib.hid (And.intro p0 p1)
                have HBA2 := Lib.hid (show Below w.heap.size w W4 by rw [hW4]; exact HBA.out)
                have HBWA := Lib.hid (HBW.out.trans (hb4.mono HBW.out.size))
                clear hal p0 p1 hrw hb4
                go_wp2_with (fail)
                rw [show wr.alloc (.cells #[.int .i64 (fn : Nat), .int .i64 (cn : Nat), .string ⟨#[]⟩] 46) = W4 from hW4.symm]
                clear hW4
                generalize wr.heap.size = bp at *
                go_loopw [9, 12] (fun t9 t12 W => ∃ j : Nat, j ≤ cn ∧ t12 = .int .i64 (j : Nat) ∧ t9 = .string ⟨(out ++ cutP base size fn j).toArray⟩ ∧ W = W4) (fun _ t12 _ => cn - (intOf t12).toNat)
                case atStart => exact ⟨0, by omega, rfl, by simp [cutP], rfl⟩
                case round =>
                  obtain ⟨j, hj, rfl, rfl, rfl⟩ := hrel
                  obtain ⟨p0, p1⟩ := HP.out
                  by_cases hjc : j < cn
                  · have hjb : fn + j < (blocksP base size).length := by have := HBN.out; omega
                    have hcell := HRW.out
                    rw [← HBN.out] at hcell
                    obtain ⟨ad3, had3, hc3⟩ := hcell.str_at hjb
                    injection had3 with had3
                    subst had3
                    have hblk : (blocksP base size)[fn + j] = blockP base size (fn + j) := by simp [blocksP]
                    rw [hblk] at hc3
                    have hnx := cutP_next (base := base) (size := size) (f := fn) (c := j)
                    have HNX := Lib.hid hnx
                    clear hnx hcell hblk
                    have j1 : (0 : Int) ≤ (fn : Int) + (j : Int) := by omega
                    have j2 : (fn : Int) + (j : Int) < (N : Int) := by omega
                    have j3 : ((fn : Int) + (j : Int)).toNat = fn + j := by omega
                    have hz1 := cutP_length_le (base := base) (size := size) fn j
                    have hz2 : (blockP base size (fn + j)).length ≤ 65536 := by unfold blockP; simp; omega
                    generalize cutP base size fn j = cj at *
                    generalize blockP base size (fn + j) = bk at *
                    go_wp2_with (fail)
                    go_roundw
                    case rel => exact ⟨j + 1, by omega, by go_num, by rw [HNX.out], trivial⟩
                    case measure => simp [intOf]; omega
                  · obtain rfl : j = cn := by omega
                    have hz1 := cutP_length_le (base := base) (size := size) fn j
                    have HMORE := Lib.hid (HMC.out)
                    by_cases hbig : 65536 < (out ++ (cutP base size fn j)).length
                    · have d1 : decide ((65536 : Int) < (out.length : Int) + ((cutP base size fn j).length : Int)) = true := decide_eq_true (by simp at hbig; omega)
                      have HR := Lib.hid (applyP_much hlt (HAT.out ▸ HMORE.out) hbig)
                      go_wp2_with (fail)
                      go_ret2
                      exact ⟨by rw [HRES.out, HR.out]; rfl, HBA2.out⟩
                    · have d1 : decide ((65536 : Int) < (out.length : Int) + ((cutP base size fn j).length : Int)) = false := decide_eq_false (by simp at hbig; omega)
                      have HR := Lib.hid (HRES.out.trans (applyP_on hlt (HAT.out ▸ HMORE.out) hbig))
                      go_wp2_with (fail)
                      go_roundw
                      case rel => exact ⟨k + 1, out ++ (cutP base size fn j), by omega, by go_num, rfl, by omega, Lib.hid (HBWA.out), HR⟩
                      case measure => simp [intOf]; omega
      case neg =>
        have b1 : decide ((0 : Int) < c) = false := decide_eq_false q1
        by_cases q2 : c = 0
        case neg =>
          have b2 : (c == (0 : Int)) = false := by rw [beq_eq_false_iff_ne]; exact q2
          have HR := Lib.hid (applyP_none (base := base) (size := size) (out := out) hlt (HAT.out ▸ more_none (fun h => absurd (copies_iff.1 h) (fun q => q1 q.1)) (fun h => absurd (says_iff.1 h) (fun q => q2 q.1))))
          go_wp2_with (fail)
          go_ret2
          exact ⟨by rw [HRES.out, HR.out]; rfl, HB.out.alloc HB.out.size _⟩
        case pos =>
          subst q2
          by_cases q3 : f = 0
          case neg =>
            have b3 : (f == (0 : Int)) = false := by rw [beq_eq_false_iff_ne]; exact q3
            have HR := Lib.hid (applyP_none (base := base) (size := size) (out := out) hlt (HAT.out ▸ more_none (fun h => absurd (copies_iff.1 h) (fun q => q1 q.1)) (fun h => absurd (says_iff.1 h) (fun q => q3 q.2.1))))
            go_wp2_with (fail)
            go_ret2
            exact ⟨by rw [HRES.out, HR.out]; rfl, HB.out.alloc HB.out.size _⟩
          case pos =>
            subst q3
            cases t with
            | nil =>
              have HR := Lib.hid (applyP_none (base := base) (size := size) (out := out) hlt (HAT.out ▸ more_none (fun h => absurd (copies_iff.1 h) (fun q => q1 q.1)) (fun h => absurd (says_iff.1 h) (fun q => q.2.2 rfl))))
              go_wp2_with (fail)
              go_ret2
              exact ⟨by rw [HRES.out, HR.out]; rfl, HB.out.alloc HB.out.size _⟩
            | cons t0 tr =>
              have hte : (t0 :: tr).isEmpty = false := rfl
              have HMS := Lib.hid (show moreP base size ⟨0, 0, t0 :: tr⟩ = some (t0 :: tr) from more_says (o := ⟨0, 0, t0 :: tr⟩) (fun h => absurd (copies_iff.1 h).1 q1) (by rw [says_iff]; exact ⟨rfl, rfl, by simp⟩))
              generalize t0 :: tr = t at *
              have HMORE := Lib.hid (HMS.out)
              by_cases hbig : 65536 < (out ++ t).length
              · have d1 : decide ((65536 : Int) < (out.length : Int) + (t.length : Int)) = true := decide_eq_true (by simp at hbig; omega)
                have HR := Lib.hid (applyP_much hlt (HAT.out ▸ HMORE.out) hbig)
                go_wp2_with (fail)
                go_ret2
                exact ⟨by rw [HRES.out, HR.out]; rfl, HB.out.alloc HB.out.size _⟩
              · have d1 : decide ((65536 : Int) < (out.length : Int) + (t.length : Int)) = false := decide_eq_false (by simp at hbig; omega)
                have HR := Lib.hid (HRES.out.trans (applyP_on hlt (HAT.out ▸ HMORE.out) hbig))
                go_wp2_with (fail)
                go_roundw
                case rel => exact ⟨k + 1, out ++ t, by omega, by go_num, rfl, by omega, Lib.hid (HBW.out.alloc HBW.out.size _), HR⟩
                case measure => simp [intOf]; omega
    · obtain rfl : k = l.length := by omega
      have HR := Lib.hid (HRES.out.trans applyP_end)
      go_wp2_with (fail)
      go_ret2
      exact ⟨by rw [HR.out]; rfl, HB.out⟩
end Go.Proofs.Ytgohhhfnffhgmaa
