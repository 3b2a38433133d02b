/- hawserref02.holds. -/
import Derived.Test.YtgppfcaghjbjmaaDoorGlobR3
import Derived.Test.YtgppfcaghjbjmaaDoorOpen2
set_option linter.unusedVariables false
namespace Go.Proofs.YtgppfcaghjbjmaaDoor
open Go.RowKit Plain

theorem info_boolR : (Tryd.prog.info? 4).map (fun i => (i.zero, i.size, i.bytes)) = some (some (.bool false), 1, 1) := by kernel_rfl
/-- rows of unlike elements lie apart -/
theorem own_unlike {w w' : World} {b b' : Nat} {e e' : TypeId} {size size' n n' : Nat} {v u : Value} {xs ys : List Value} (hv : w.ownsRow b e size v n xs) (hu : w.ownsRow b' e' size' u n' ys) (he : e ≠ e') (hg : w.grownBy w' u.ownBlock) : w'.ownsRow b e size v n xs := by
  refine ⟨hv.1, ?_⟩
  rcases hv.2 with h | ⟨g, cap, cur, rfl, hbg, hh, hr⟩
  · exact .inl h
  · refine .inr ⟨g, cap, cur, rfl, hbg, ?_, hr⟩
    rw [hg.block g (Array.getElem?_eq_some_iff.1 hh).1 (fun e1 => by
      rcases hu.2 with ⟨hv2, _⟩ | ⟨g2, cap2, cur2, rfl, _, hh2, _⟩
      · rw [hv2] at e1; cases e1
      · have e2 : g = g2 := by injection e1
        rw [← e2, hh] at hh2
        injection hh2 with hh2
        injection hh2 with _ h3 _
        exact he h3)]
    exact hh

namespace Plain
theorem litsR_cons (e : Bool) (x : List UInt8) (l : List (List UInt8)) : litsR e (x :: l) = if x = [92] ∧ e = false then litsR true l else (x, e) :: litsR false l := rfl
theorem evenR_cons (e : Bool) (x : List UInt8) (l : List (List UInt8)) : evenR e (x :: l) = if x = [92] ∧ e = false then evenR true l else evenR false l := rfl
def dashOf (x : List UInt8 × Bool) : Bool := x.1 == [45] && !x.2
theorem dashOf_iff {x : List UInt8 × Bool} : dashOf x = true ↔ x = ([45], false) := by
  obtain ⟨a, b⟩ := x
  unfold dashOf
  simp
theorem holdL_dash_at {L : List (List UInt8 × Bool)} {r : List UInt8} {o : Nat} (h : o + 2 < L.length) (hd : L[o + 1] = ([45], false)) : holdL (L.drop o) r = ((leT L[o].1 r && leT r L[o + 2].1) || holdL (L.drop (o + 3)) r) := by
  have h1 : L.drop o = L[o] :: L[o + 1] :: L[o + 2] :: L.drop (o + 3) := by
    rw [List.drop_eq_getElem_cons (by omega), List.drop_eq_getElem_cons (show o + 1 < L.length by omega), List.drop_eq_getElem_cons (show o + 1 + 1 < L.length by omega)]
  rw [h1]
  show (if L[o + 1] = ([45], false) then _ else _) = _
  rw [if_pos hd]
theorem holdL_one_at {L : List (List UInt8 × Bool)} {r : List UInt8} {o : Nat} (h0 : o < L.length) (h : ∀ h : o + 2 < L.length, L[o + 1] ≠ ([45], false)) : holdL (L.drop o) r = ((L[o].1 == r) || holdL (L.drop (o + 1)) r) := by
  rw [List.drop_eq_getElem_cons h0]
  by_cases h1 : o + 1 < L.length
  · rw [List.drop_eq_getElem_cons h1]
    by_cases h2 : o + 2 < L.length
    · rw [List.drop_eq_getElem_cons (show o + 1 + 1 < L.length by omega)]
      show (if L[o + 1] = ([45], false) then _ else _) = _
      rw [if_neg (h h2)]
    · rw [List.drop_eq_nil_of_le (show L.length ≤ o + 1 + 1 by omega)]
      rfl
  · rw [List.drop_eq_nil_of_le (show L.length ≤ o + 1 by omega)]
    show (L[o].1 == r) = _
    simp [holdL]
theorem leT_or : ∀ (a b : List UInt8), leT a b = (Op.bytesLess a b || a == b)
  | [], [] => rfl
  | [], _ :: _ => rfl
  | _ :: _, [] => rfl
  | a :: x, b :: y => by
    have ih := leT_or x y
    unfold leT at ih ⊢
    show (!(b < a || (b == a && Op.bytesLess y x))) = ((a < b || (a == b && Op.bytesLess x y)) || (a == b && x == y))
    by_cases e : a = b
    · subst e
      have h0 : ¬ a < a := fun h => absurd (UInt8.lt_iff_toNat_lt.1 h) (by omega)
      simp only [h0, decide_false, Bool.false_or, beq_self_eq_true, Bool.true_and]
      exact ih
    · have h1 : (a == b) = false := beq_eq_false_iff_ne.2 e
      have h2 : (b == a) = false := beq_eq_false_iff_ne.2 (Ne.symm e)
      simp only [h1, h2, Bool.false_and, Bool.or_false]
      have h3 : a.toNat ≠ b.toNat := fun h => e (UInt8.toNat_inj.1 h)
      by_cases h : b < a
      · have h4 : ¬ a < b := fun h5 => by
          have := UInt8.lt_iff_toNat_lt.1 h
          have := UInt8.lt_iff_toNat_lt.1 h5
          omega
        simp [h, h4]
      · have h4 : a < b := UInt8.lt_iff_toNat_lt.2 (by
          have : ¬ b.toNat < a.toNat := fun h6 => h (UInt8.lt_iff_toNat_lt.2 h6)
          omega)
        simp [h, h4]
theorem holdL_end {L : List (List UInt8 × Bool)} {r : List UInt8} {o : Nat} (h : L.length ≤ o) : holdL (L.drop o) r = false := by
  rw [List.drop_eq_nil_of_le h]; rfl
end Plain

set_option maxHeartbeats 4000000 in
set_option maxRecDepth 100000 in
theorem holds_ref (s t : List UInt8) (w : World) (hv : Lib.validD s = true) (hev : evenR false (runesP s) = true) (hs : s.length ≤ 65536) :
    Calls Tryd.prog 71 #[.string ⟨s.toArray⟩, .string ⟨t.toArray⟩] w (Ret w (.bool (holdL (litsP (runesP s)) t))) := by
  obtain ⟨i0, hi, hz0, hz1, hz2⟩ := info_parts info_strR
  obtain ⟨j0, hj, jz0, jz1, jz2⟩ := info_parts info_boolR
  have HI := Lib.hid hi
  have HJ := Lib.hid hj
  have hR := Runes_ref s w hv hs
  have hXl := lits_le s hv s.length (Nat.le_refl _)
  rw [litsP_R _ _ (Nat.le_refl _)]
  have hLl := litsR_length (runesP s) false
  generalize runesP s = X at *
  generalize hres : holdL (litsR false X) t = res
  have HRES := Lib.hid hres
  have HR := Lib.hid hR
  have HEV := Lib.hid hev
  clear hi hj hR hres hev hv
  go_enter Tryd.func71, Tryd.ntmps71
  go_wp2_with (fail)
  refine HR.out.mono ?_
  rintro e w1 ⟨AX, cX, rfl, hcX, hmX, hrX, hw1, _⟩
  have HX := Lib.hid hrX
  have HB1 := Lib.hid hw1
  have hz1' := hw1.size
  clear hrX hw1
  go_wp2_with (fail)
  go_loopw [5, 6, 8] (fun t5 t6 t8 W => ∃ (i : Nat) (acc : List (List UInt8 × Bool)), i ≤ X.length ∧ acc.length ≤ i ∧ t8 = .int .i64 i ∧ Hid (W.ownsRow w1.heap.size 9 1 t5 acc.length (strs (acc.map (·.1)))) ∧ Hid (W.ownsRow w1.heap.size 4 1 t6 acc.length (bools (acc.map dashOf))) ∧
    Hid (acc ++ litsR false (X.drop i) = litsR false X) ∧ Hid (evenR false (X.drop i) = true) ∧ Hid (Below w1.heap.size w1 W)) (fun _ _ t8 _ => X.length - (intOf t8).toNat)
  case atStart => exact ⟨0, [], by omega, by simp, rfl, Lib.hid (World.ownsRow_nil _ _ _ _), Lib.hid (World.ownsRow_nil _ _ _ _), Lib.hid rfl, HEV, Lib.hid (Below.refl _ _)⟩
  case round =>
    obtain ⟨i, acc, hi, hai, rfl, HO, HD, HE, HEI, HB⟩ := hrel
    have i0' : (0 : Int) ≤ i := by omega
    have e1 : IntKind.i64.wrap ((i : Int) + 1) = (i : Int) + 1 := IntWalk.i64_in _ (by omega)
    have e2 : ((i : Int) + 1).toNat = i + 1 := by omega
    have e3 : (0 : Int) ≤ (i : Int) + 1 := by omega
    by_cases hlt : i < X.length
    · have i1 : (i : Int) < X.length := by omega
      have hdc := List.drop_eq_getElem_cons hlt
      obtain ⟨ad, rfl, cX0⟩ := (HX.out.below HB.out).str_at hlt
      have hE := HE.out
      have hEI := HEI.out
      rw [hdc] at hE hEI
      have HCX := Lib.hid (fun W (h : Below wr.heap.size wr W) => (h.cell (World.block_lt_of_cell? _ _ cX0)).trans cX0)
      by_cases h92 : X[i] = [92]
      · rw [h92] at hE hEI
        rw [litsR_cons, if_pos ⟨rfl, rfl⟩] at hE
        rw [evenR_cons, if_pos ⟨rfl, rfl⟩] at hEI
        have hlt2 : i + 1 < X.length := by
          rcases Nat.lt_or_ge (i + 1) X.length with h | h
          · exact h
          · rw [List.drop_eq_nil_of_le h] at hEI; cases hEI
        have i2 : (i : Int) + 1 < X.length := by omega
        rw [List.drop_eq_getElem_cons hlt2] at hE hEI
        rw [litsR_cons, if_neg (fun c => by cases c.2)] at hE
        rw [evenR_cons, if_neg (fun c => by cases c.2)] at hEI
        obtain ⟨ad', hae, cX1⟩ := (HX.out.below HB.out).str_at hlt2
        injection hae with hae
        subst hae
        generalize X[i + 1] = y at *
        have HE2 := Lib.hid (show (acc ++ [(y, true)]) ++ litsR false (X.drop (i + 1 + 1)) = litsR false X by rw [← hE]; simp)
        have HEI2 := Lib.hid hEI
        have hb92 : (X[i] == [92]) = true := by rw [h92]; rfl
        rw [h92] at cX0
        rw [Addr.add, if_neg (by omega)] at cX1
        clear hE hEI hdc
        go_wp2_with (at_builtin; refine wpList_append_own _ rfl _ _ 41 rfl w1.heap.size 9 i0 _ 1 16 Tryd.underlying41 HI.out hz0 hz1 hz2 rfl (by decide) _ _ _ rfl (HO.out.alloc _) ⟨wr.heap.size, 0, none⟩ 1 1 [.string ⟨y.toArray⟩] rfl rfl (laid_one _ _ _) (one_oneCell rfl) (by unfold maxLen; omega) (by omega) (by have := HB.out.size; simp; omega) ?_)
        intro v5 w5 hown5 hg5 _
        have hb5 : Below w1.heap.size w1 w5 := (HB.out.alloc HB.out.size _).grown hg5 (by have := HB.out.size; simp; omega) (fun k hk => (HO.out.lt k hk).1)
        have HD5 := Lib.hid (own_unlike (HD.out.alloc (.cells #[.string ⟨y.toArray⟩] 9)) (HO.out.alloc (.cells #[.string ⟨y.toArray⟩] 9)) (by decide) hg5)
        have HO5 := Lib.hid (show w5.ownsRow w1.heap.size 9 1 v5 (acc.length + 1) (strs ((acc ++ [(y, true)]).map (·.1))) by rw [List.map_append, strs_append]; exact hown5)
        have HB5 := Lib.hid hb5
        clear hown5 hg5 hb5 HO HD
        go_wp2_with (at_builtin; refine wpList_append_own _ rfl _ _ 93 rfl w1.heap.size 4 j0 _ 1 1 Tryd.underlying93 HJ.out jz0 jz1 jz2 rfl (by decide) _ _ _ rfl (HD5.out.alloc _) ⟨w5.heap.size, 0, none⟩ 1 1 [.bool false] rfl rfl (laid_one _ _ _) (one_oneCell rfl) (by unfold maxLen; omega) (by omega) (by have := HB5.out.size; simp; omega) ?_)
        intro v6 w6 hown6 hg6 _
        have hb6 : Below w1.heap.size w1 w6 := (HB5.out.alloc HB5.out.size _).grown hg6 (by have := HB5.out.size; simp; omega) (fun k hk => (HD5.out.lt k hk).1)
        have HO6 := Lib.hid (own_unlike (HO5.out.alloc (.cells #[.bool false] 4)) (HD5.out.alloc (.cells #[.bool false] 4)) (by decide) hg6)
        have HD6 := Lib.hid (show w6.ownsRow w1.heap.size 4 1 v6 (acc.length + 1) (bools ((acc ++ [(y, true)]).map dashOf)) by simpa [bools, dashOf] using hown6)
        have HB6 := Lib.hid hb6
        have hal : (acc ++ [(y, true)]).length = acc.length + 1 := by simp
        rw [← hal] at HO6 HD6
        clear hown6 hg6 hb6 HD5 HO5 hal
        go_wp2_with (fail)
        go_roundw
        case rel => exact ⟨i + 1 + 1, acc ++ [(y, true)], by omega, by simp; omega, by go_num, HO6, HD6, HE2, HEI2, HB6⟩
        case measure => simp [intOf]; omega
      · rw [litsR_cons, if_neg (fun c => h92 c.1)] at hE
        rw [evenR_cons, if_neg (fun c => h92 c.1)] at hEI
        have hb92 : (X[i] == [92]) = false := by rw [beq_eq_false_iff_ne]; exact h92
        generalize hy : X[i] = y at *
        have HE2 := Lib.hid (show (acc ++ [(y, false)]) ++ litsR false (X.drop (i + 1)) = litsR false X by rw [← hE]; simp)
        have HEI2 := Lib.hid hEI
        have HY5 := Lib.hid (fun W (h : Below w1.heap.size w1 W) => show W.cell? (ad.add i) = some (.string ⟨y.toArray⟩) by
          obtain ⟨ad2, ha, hc⟩ := (HX.out.below h).str_at hlt
          injection ha with ha
          subst ha
          rw [hy] at hc; exact hc)
        clear hE hEI hdc h92 hy HCX
        go_wp2_with (at_builtin; refine wpList_append_own _ rfl _ _ 41 rfl w1.heap.size 9 i0 _ 1 16 Tryd.underlying41 HI.out hz0 hz1 hz2 rfl (by decide) _ _ _ rfl (HO.out.alloc _) ⟨wr.heap.size, 0, none⟩ 1 1 [.string ⟨y.toArray⟩] rfl rfl (laid_one _ _ _) (one_oneCell rfl) (by unfold maxLen; omega) (by omega) (by have := HB.out.size; simp; omega) ?_)
        intro v5 w5 hown5 hg5 _
        have hb5 : Below w1.heap.size w1 w5 := (HB.out.alloc HB.out.size _).grown hg5 (by have := HB.out.size; simp; omega) (fun k hk => (HO.out.lt k hk).1)
        have cX5 := HY5.out w5 hb5
        have HD5 := Lib.hid (own_unlike (HD.out.alloc (.cells #[.string ⟨y.toArray⟩] 9)) (HO.out.alloc (.cells #[.string ⟨y.toArray⟩] 9)) (by decide) hg5)
        have HO5 := Lib.hid (show w5.ownsRow w1.heap.size 9 1 v5 (acc.length + 1) (strs ((acc ++ [(y, false)]).map (·.1))) by rw [List.map_append, strs_append]; exact hown5)
        have HB5 := Lib.hid hb5
        clear hown5 hg5 hb5 HO HD
        go_wp2_with (at_builtin; refine wpList_append_own _ rfl _ _ 93 rfl w1.heap.size 4 j0 _ 1 1 Tryd.underlying93 HJ.out jz0 jz1 jz2 rfl (by decide) _ _ _ rfl (HD5.out.alloc _) ⟨w5.heap.size, 0, none⟩ 1 1 [.bool (y == [45])] rfl rfl (laid_one _ _ _) (one_oneCell rfl) (by unfold maxLen; omega) (by omega) (by have := HB5.out.size; simp; omega) ?_)
        intro v6 w6 hown6 hg6 _
        have hb6 : Below w1.heap.size w1 w6 := (HB5.out.alloc HB5.out.size _).grown hg6 (by have := HB5.out.size; simp; omega) (fun k hk => (HD5.out.lt k hk).1)
        have HO6 := Lib.hid (own_unlike (HO5.out.alloc (.cells #[.bool (y == [45])] 4)) (HD5.out.alloc (.cells #[.bool (y == [45])] 4)) (by decide) hg6)
        have HD6 := Lib.hid (show w6.ownsRow w1.heap.size 4 1 v6 (acc.length + 1) (bools ((acc ++ [(y, false)]).map dashOf)) by simpa [bools, dashOf] using hown6)
        have HB6 := Lib.hid hb6
        have hal : (acc ++ [(y, false)]).length = acc.length + 1 := by simp
        rw [← hal] at HO6 HD6
        clear hown6 hg6 hb6 HD5 HO5 hal cX5
        go_wp2_with (fail)
        go_roundw
        case rel => exact ⟨i + 1, acc ++ [(y, false)], by omega, by simp; omega, by go_num, HO6, HD6, HE2, HEI2, HB6⟩
        case measure => simp [intOf]; omega
    · obtain rfl : i = X.length := by omega
      have hL : acc = litsR false X := by
        have := HE.out
        rw [List.drop_length] at this
        simpa [litsR] using this
      rw [hL] at HO HD hai
      clear hL HE HEI HEV
      generalize litsR false X = L at *
      obtain ⟨AL, cL, rfl, hcL, hmL, hrL⟩ := IsSlice.of_own HO.out
      obtain ⟨AD, cD, rfl, hcD, hmD, hrD⟩ := IsSlice.of_own HD.out
      have hml : (L.map (·.1)).length = L.length := by simp
      have hmd : (L.map dashOf).length = L.length := by simp
      have hcell : ∀ k (h : k < L.length), ∃ ad, AL = some ad ∧ wr.cell? (ad.add k) = some (.string ⟨L[k].1.toArray⟩) := fun k h => by
        obtain ⟨ad, e, c⟩ := Reads.str_at (l := L.map (·.1)) (k := k) (by rw [hml]; exact hrL) (by rw [hml]; exact h)
        exact ⟨ad, e, by simpa using c⟩
      have hdcell : ∀ k (h : k < L.length), ∃ ad, AD = some ad ∧ wr.cell? (ad.add k) = some (.bool (dashOf L[k])) := fun k h => by
        obtain ⟨ad, e, c⟩ := Reads.bool_at (l := L.map dashOf) (k := k) (by rw [hmd]; exact hrD) (by rw [hmd]; exact h)
        exact ⟨ad, e, by simpa using c⟩
      have HCL := Lib.hid hcell
      have HCD := Lib.hid hdcell
      have hLn : L.length ≤ 65536 := by omega
      clear hcell hdcell hrL hrD HO HD hml hmd
      have HBF := Lib.hid (HB1.out.trans (HB.out.mono hz1'))
      go_wp2_with (fail)
      go_loopw [9] (fun t9 W => ∃ o : Nat, o ≤ L.length ∧ t9 = .int .i64 o ∧ Hid (holdL L t = holdL (L.drop o) t) ∧ W = wr) (fun t9 _ => L.length - (intOf t9).toNat)
      case atStart => exact ⟨0, by omega, rfl, Lib.hid rfl, rfl⟩
      case round =>
        obtain ⟨o, ho, rfl, HEO, rfl⟩ := hrel
        have o0 : (0 : Int) ≤ o := by omega
        have q1 : IntKind.i64.wrap ((o : Int) + 2) = (o : Int) + 2 := IntWalk.i64_in _ (by omega)
        have q2 : ((o : Int) + 2).toNat = o + 2 := by omega
        have q3 : (0 : Int) ≤ (o : Int) + 2 := by omega
        have q4 : IntKind.i64.wrap ((o : Int) + 1) = (o : Int) + 1 := IntWalk.i64_in _ (by omega)
        have q5 : ((o : Int) + 1).toNat = o + 1 := by omega
        have q6 : (0 : Int) ≤ (o : Int) + 1 := by omega
        by_cases hol : o < L.length
        · have o1 : (o : Int) < L.length := by omega
          obtain ⟨al, rfl, c0⟩ := HCL.out o hol
          have hone := holdL_one_at (L := L) (r := t) (o := o) hol
          by_cases h2 : o + 2 < L.length
          · have d2 : (o : Int) + 2 < L.length := by omega
            have d3 : (o : Int) + 1 < L.length := by omega
            obtain ⟨ad', rfl, c1⟩ := HCD.out (o + 1) (by omega)
            rw [Addr.add, if_neg (by omega)] at c1
            cases hdash : dashOf L[o + 1] with
            | true =>
              rw [hdash] at c1
              obtain ⟨al2, hae, c2⟩ := HCL.out (o + 2) h2
              injection hae with hae
              subst hae
              rw [Addr.add, if_neg (by omega)] at c2
              have hds := holdL_dash_at (L := L) (r := t) (o := o) h2 (dashOf_iff.1 hdash)
              rw [leT_or, leT_or] at hds
              generalize L[o].1 = x at *
              generalize L[o + 2].1 = z at *
              clear hone hdash
              cases ha : Op.bytesLess x t <;> cases ha' : x == t <;> cases hb : Op.bytesLess t z <;> cases hb' : t == z <;> rw [ha, ha', hb, hb'] at hds <;> first
              | have HE2 := Lib.hid (show holdL L t = holdL (L.drop (o + 3)) t by rw [HEO.out, hds]; simp; done)
                clear hds
                go_wp2_with (fail)
                go_roundw
                case rel => exact ⟨o + 3, by omega, by go_num, HE2, by first | trivial | rfl⟩
                case measure => simp [intOf]; omega
              | have HR2 := Lib.hid (show res = true by rw [← HRES.out, HEO.out, hds]; simp; done)
                clear hds
                go_wp2_with (fail)
                go_ret
                exact ⟨by rw [HR2.out]; rfl, HBF.out⟩
            | false =>
              rw [hdash] at c1
              have hone' := hone (fun _ e => by rw [dashOf_iff.2 e] at hdash; cases hdash)
              generalize L[o].1 = x at *
              clear hone hdash
              cases hx : x == t with
              | true =>
                rw [hx] at hone'
                have HR2 := Lib.hid (show res = true by rw [← HRES.out, HEO.out, hone']; simp)
                clear hone'
                go_wp2_with (fail)
                go_ret
                exact ⟨by rw [HR2.out]; rfl, HBF.out⟩
              | false =>
                rw [hx, Bool.false_or] at hone'
                have HE2 := Lib.hid (HEO.out.trans hone')
                clear hone'
                go_wp2_with (fail)
                go_roundw
                case rel => exact ⟨o + 1, by omega, by go_num, HE2, by first | trivial | rfl⟩
                case measure => simp [intOf]; omega
          · have d2 : decide ((o : Int) + 2 < (L.length : Int)) = false := by rw [decide_eq_false_iff_not]; omega
            have hone' := hone (fun h _ => absurd h h2)
            generalize L[o].1 = x at *
            clear hone
            cases hx : x == t with
            | true =>
              rw [hx] at hone'
              have HR2 := Lib.hid (show res = true by rw [← HRES.out, HEO.out, hone']; simp)
              clear hone'
              go_wp2_with (fail)
              go_ret
              exact ⟨by rw [HR2.out]; rfl, HBF.out⟩
            | false =>
              rw [hx, Bool.false_or] at hone'
              have HE2 := Lib.hid (HEO.out.trans hone')
              clear hone'
              go_wp2_with (fail)
              go_roundw
              case rel => exact ⟨o + 1, by omega, by go_num, HE2, by first | trivial | rfl⟩
              case measure => simp [intOf]; omega
        · have HR2 := Lib.hid (show res = false by rw [← HRES.out, HEO.out, holdL_end (by omega)])
          go_wp2_with (fail)
          go_ret
          exact ⟨by rw [HR2.out]; rfl, HBF.out⟩
end Go.Proofs.YtgppfcaghjbjmaaDoor
