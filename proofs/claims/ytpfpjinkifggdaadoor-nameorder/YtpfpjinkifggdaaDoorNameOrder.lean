/- hawserlaw01.NameOrder: paths stand in one order; what is within a path stands right behind it. -/
import Derived.Test.YtpfpjinkifggdaaDoorNameAwake
import Derived.Test.YtpfpjinkifggdaaDoorTabs
import Derived.Test.YtpfpjinkifggdaaDoorCard
namespace Go.Proofs.YtpfpjinkifggdaaDoor
open Go.RowKit Plain

theorem order_neg (a b : List UInt8) : orderM b a = - orderM a b := orderP_neg _ _
theorem order_zero (a b : List UInt8) : orderM a b = 0 ↔ a = b := by
  unfold orderM
  rw [orderP_zero]
  exact ⟨fun h => by rw [← join_parts a, h, join_parts], fun h => by rw [h]⟩
theorem order_trans (a b c : List UInt8) (h1 : orderM a b ≤ 0) (h2 : orderM b c ≤ 0) : orderM a c ≤ 0 ∧ (orderM a b < 0 → orderM a c < 0) := orderP_trans _ _ _ h1 h2
theorem order_within (a b c : List UInt8) (p1 : pathOK a = true) (p2 : pathOK b = true) (hw : withinM c a = true) (h1 : orderM a b < 0) (h2 : orderM b c < 0) : withinM b a = true := by
  rw [withinM_parts] at hw ⊢
  rw [p2, p1]
  have hne : a.isEmpty = false := by cases a with
    | nil => exact absurd rfl (pathOK_ne p1)
    | cons x r => rfl
  rw [p1, hne] at hw
  rw [hne]
  simp only [Bool.true_and, Bool.false_or, Bool.and_eq_true, List.isPrefixOf_iff_prefix] at hw ⊢
  exact orderP_between _ _ _ hw.2 h1 h2

set_option maxHeartbeats 8000000 in
set_option maxRecDepth 100000 in
theorem NameOrder_any (a b c : List UInt8) (m : Int) (w : World) (hL : Laid w m) (ha : a.length ≤ 9223372036854775807) (hb : b.length ≤ 9223372036854775807) (hc : c.length ≤ 9223372036854775807) :
    Calls Tryd.prog 5 #[.string ⟨a.toArray⟩, .string ⟨b.toArray⟩, .string ⟨c.toArray⟩] w (Ret w (.bool true)) := by
  have HAW := Lib.hid (awake_any m w hL)
  have HL := Lib.hid (fun W (h : Below w.heap.size w W) => hL.below h)
  have hOab := fun W => Order_any a b W ha hb
  have hObc := fun W => Order_any b c W hb hc
  have hOac := fun W => Order_any a c W ha hc
  have hOba := fun W => Order_any b a W hb ha
  have HPa := Lib.hid (fun W (h : Laid W m) => Path_any a W h.tabs)
  have HPb := Lib.hid (fun W (h : Laid W m) => Path_any b W h.tabs)
  have HWca := Lib.hid (fun W (h : Laid W m) => Within_any c a W h.tabs)
  have HWba := Lib.hid (fun W (h : Laid W m) => Within_any b a W h.tabs)
  rw [order_neg a b] at hOba
  have hcase : -1 ≤ orderM a b ∧ orderM a b ≤ 1 := by rcases orderP_cases (parts a) (parts b) with h | h | h <;> unfold orderM <;> omega
  have ht := order_trans a b c
  have hz := order_zero a b
  have hwi := order_within a b c
  obtain ⟨be, hbe⟩ : ∃ e, (a == b) = e := ⟨_, rfl⟩
  have hxe : (orderM a b == 0) = be := by rw [← hbe, Bool.eq_iff_iff]; simpa using hz
  clear hz hL
  generalize orderM a b = x at *
  generalize orderM b c = y at *
  generalize orderM a c = z at *
  generalize pathOK a = p1 at *
  generalize pathOK b = p2 at *
  generalize withinM c a = wi at *
  generalize withinM b a = wb at *
  obtain ⟨hx1, hx2⟩ := hcase
  have HO1 := Lib.hid hOab
  have HO2 := Lib.hid hObc
  have HO3 := Lib.hid hOac
  have HO4 := Lib.hid hOba
  have HT := Lib.hid ht
  have HWI := Lib.hid hwi
  have d1 : decide (x < -1) = false := by simp; omega
  have d2 : decide (1 < x) = false := by simp; omega
  have e1 : IntKind.i64.wrap (-x) = -x := IntWalk.i64_in _ (by omega)
  clear hOab hObc hOac hOba ht hwi ha hb hc
  rcases (by omega : x < 0 ∨ x = 0 ∨ 0 < x) with hx | hx | hx
  · have c1 : decide (x ≤ 0) = true := by simp; omega
    have c4 : decide (x < 0) = true := by simp; omega
    rcases (by omega : y < 0 ∨ y = 0 ∨ 0 < y) with hy | hy | hy
    · have hz := (HT.out (by omega) (by omega)).2 hx
      have c2 : decide (y ≤ 0) = true := by simp; omega
      have c5 : decide (y < 0) = true := by simp; omega
      have c3 : decide (0 < z) = false := by simp; omega
      have c6 : decide (0 ≤ z) = false := by simp; omega
      go_enter Tryd.func5, Tryd.ntmps5
      go_wp2_with (fail)
      refine HAW.out.mono ?_
      rintro e w1 ⟨rfl, hw1⟩
      go_wp2_with (fail)
      refine (HO1.out w1).mono ?_
      rintro e w2 ⟨rfl, hw2⟩
      have hB2 := hw1.trans (hw2.mono hw1.size)
      clear hw1 hw2
      go_wp2_with (fail)
      refine (HO2.out w2).mono ?_
      rintro e w3 ⟨rfl, hw3⟩
      have hB3 := hB2.trans (hw3.mono hB2.size)
      clear hw3 hB2
      go_wp2_with (fail)
      refine (HO3.out w3).mono ?_
      rintro e w4 ⟨rfl, hw4⟩
      have hB4 := hB3.trans (hw4.mono hB3.size)
      clear hw4 hB3
      go_wp2_with (fail)
      refine (HO4.out w4).mono ?_
      rintro e w5 ⟨rfl, hw5⟩
      have hB5 := hB4.trans (hw5.mono hB4.size)
      clear hw5 hB4
      go_wp2_with (fail)
      refine (HPa.out w5 (HL.out w5 hB5)).mono ?_
      rintro e w6 ⟨rfl, hw6⟩
      have hB6 := hB5.trans (hw6.mono hB5.size)
      clear hw6 hB5
      cases p1 with
      | false =>
        go_wp2_with (fail)
        go_ret
        exact ⟨by simp, hB6⟩
      | true =>
        go_wp2_with (fail)
        refine (HPb.out w6 (HL.out w6 hB6)).mono ?_
        rintro e w7 ⟨rfl, hw7⟩
        have hB7 := hB6.trans (hw7.mono hB6.size)
        clear hw7 hB6
        cases p2 with
        | false =>
          go_wp2_with (fail)
          go_ret
          exact ⟨by simp, hB7⟩
        | true =>
          go_wp2_with (fail)
          refine (HWca.out w7 (HL.out w7 hB7)).mono ?_
          rintro e w8 ⟨rfl, hw8⟩
          have hB8 := hB7.trans (hw8.mono hB7.size)
          clear hw8 hB7
          cases wi with
          | false =>
            go_wp2_with (fail)
            go_ret
            exact ⟨by simp, hB8⟩
          | true =>
            have hwb := HWI.out (by simp) (by simp) (by simp) (by omega) (by omega)
            subst hwb
            go_wp2_with (fail)
            refine (HWba.out w8 (HL.out w8 hB8)).mono ?_
            rintro e w9 ⟨rfl, hw9⟩
            have hB9 := hB8.trans (hw9.mono hB8.size)
            go_wp2_with (fail)
            go_ret
            exact ⟨by simp, hB9⟩

    · have hz := (HT.out (by omega) (by omega)).2 hx
      have c2 : decide (y ≤ 0) = true := by simp; omega
      have c5 : decide (y < 0) = false := by simp; omega
      have c3 : decide (0 < z) = false := by simp; omega
      have c6 : decide (0 ≤ z) = false := by simp; omega
      have HY := Lib.hid hy
      clear hy
      go_enter Tryd.func5, Tryd.ntmps5
      go_wp2_with (fail)
      refine HAW.out.mono ?_
      rintro e w1 ⟨rfl, hw1⟩
      go_wp2_with (fail)
      refine (HO1.out w1).mono ?_
      rintro e w2 ⟨rfl, hw2⟩
      have hB2 := hw1.trans (hw2.mono hw1.size)
      clear hw1 hw2
      go_wp2_with (fail)
      refine (HO2.out w2).mono ?_
      rintro e w3 ⟨rfl, hw3⟩
      have hB3 := hB2.trans (hw3.mono hB2.size)
      clear hw3 hB2
      go_wp2_with (fail)
      refine (HO3.out w3).mono ?_
      rintro e w4 ⟨rfl, hw4⟩
      have hB4 := hB3.trans (hw4.mono hB3.size)
      clear hw4 hB3
      go_wp2_with (fail)
      refine (HO4.out w4).mono ?_
      rintro e w5 ⟨rfl, hw5⟩
      have hB5 := hB4.trans (hw5.mono hB4.size)
      clear hw5 hB4
      go_wp2_with (fail)
      refine (HPa.out w5 (HL.out w5 hB5)).mono ?_
      rintro e w6 ⟨rfl, hw6⟩
      have hB6 := hB5.trans (hw6.mono hB5.size)
      clear hw6 hB5
      cases p1 with
      | false =>
        go_wp2_with (fail)
        go_ret
        exact ⟨by simp, hB6⟩
      | true =>
        go_wp2_with (fail)
        refine (HPb.out w6 (HL.out w6 hB6)).mono ?_
        rintro e w7 ⟨rfl, hw7⟩
        have hB7 := hB6.trans (hw7.mono hB6.size)
        clear hw7 hB6
        cases p2 with
        | false =>
          go_wp2_with (fail)
          go_ret
          exact ⟨by simp, hB7⟩
        | true =>
          go_wp2_with (fail)
          refine (HWca.out w7 (HL.out w7 hB7)).mono ?_
          rintro e w8 ⟨rfl, hw8⟩
          have hB8 := hB7.trans (hw8.mono hB7.size)
          clear hw8 hB7
          cases wi with
          | false =>
            go_wp2_with (fail)
            go_ret
            exact ⟨by simp, hB8⟩
          | true =>
            go_wp2_with (fail)
            go_ret
            exact ⟨by simp, hB8⟩

    · have c2 : decide (y ≤ 0) = false := by simp; omega
      have c5 : decide (y < 0) = false := by simp; omega
      go_enter Tryd.func5, Tryd.ntmps5
      go_wp2_with (fail)
      refine HAW.out.mono ?_
      rintro e w1 ⟨rfl, hw1⟩
      go_wp2_with (fail)
      refine (HO1.out w1).mono ?_
      rintro e w2 ⟨rfl, hw2⟩
      have hB2 := hw1.trans (hw2.mono hw1.size)
      clear hw1 hw2
      go_wp2_with (fail)
      refine (HO2.out w2).mono ?_
      rintro e w3 ⟨rfl, hw3⟩
      have hB3 := hB2.trans (hw3.mono hB2.size)
      clear hw3 hB2
      go_wp2_with (fail)
      refine (HO3.out w3).mono ?_
      rintro e w4 ⟨rfl, hw4⟩
      have hB4 := hB3.trans (hw4.mono hB3.size)
      clear hw4 hB3
      go_wp2_with (fail)
      refine (HO4.out w4).mono ?_
      rintro e w5 ⟨rfl, hw5⟩
      have hB5 := hB4.trans (hw5.mono hB4.size)
      clear hw5 hB4
      go_wp2_with (fail)
      refine (HPa.out w5 (HL.out w5 hB5)).mono ?_
      rintro e w6 ⟨rfl, hw6⟩
      have hB6 := hB5.trans (hw6.mono hB5.size)
      clear hw6 hB5
      cases p1 with
      | false =>
        go_wp2_with (fail)
        go_ret
        exact ⟨by simp, hB6⟩
      | true =>
        go_wp2_with (fail)
        refine (HPb.out w6 (HL.out w6 hB6)).mono ?_
        rintro e w7 ⟨rfl, hw7⟩
        have hB7 := hB6.trans (hw7.mono hB6.size)
        clear hw7 hB6
        cases p2 with
        | false =>
          go_wp2_with (fail)
          go_ret
          exact ⟨by simp, hB7⟩
        | true =>
          go_wp2_with (fail)
          refine (HWca.out w7 (HL.out w7 hB7)).mono ?_
          rintro e w8 ⟨rfl, hw8⟩
          have hB8 := hB7.trans (hw8.mono hB7.size)
          clear hw8 hB7
          cases wi with
          | false =>
            go_wp2_with (fail)
            go_ret
            exact ⟨by simp, hB8⟩
          | true =>
            go_wp2_with (fail)
            go_ret
            exact ⟨by simp, hB8⟩

  · have c1 : decide (x ≤ 0) = true := by simp; omega
    have c4 : decide (x < 0) = false := by simp; omega
    have HX := Lib.hid hx
    rcases (by omega : y ≤ 0 ∨ 0 < y) with hy | hy
    · have hz := (HT.out (by omega) (by omega)).1
      have c2 : decide (y ≤ 0) = true := by simp; omega
      have c3 : decide (0 < z) = false := by simp; omega
      clear hx
      go_enter Tryd.func5, Tryd.ntmps5
      go_wp2_with (fail)
      refine HAW.out.mono ?_
      rintro e w1 ⟨rfl, hw1⟩
      go_wp2_with (fail)
      refine (HO1.out w1).mono ?_
      rintro e w2 ⟨rfl, hw2⟩
      have hB2 := hw1.trans (hw2.mono hw1.size)
      clear hw1 hw2
      go_wp2_with (fail)
      refine (HO2.out w2).mono ?_
      rintro e w3 ⟨rfl, hw3⟩
      have hB3 := hB2.trans (hw3.mono hB2.size)
      clear hw3 hB2
      go_wp2_with (fail)
      refine (HO3.out w3).mono ?_
      rintro e w4 ⟨rfl, hw4⟩
      have hB4 := hB3.trans (hw4.mono hB3.size)
      clear hw4 hB3
      go_wp2_with (fail)
      refine (HO4.out w4).mono ?_
      rintro e w5 ⟨rfl, hw5⟩
      have hB5 := hB4.trans (hw5.mono hB4.size)
      clear hw5 hB4
      go_wp2_with (fail)
      refine (HPa.out w5 (HL.out w5 hB5)).mono ?_
      rintro e w6 ⟨rfl, hw6⟩
      have hB6 := hB5.trans (hw6.mono hB5.size)
      clear hw6 hB5
      cases p1 with
      | false =>
        go_wp2_with (fail)
        go_ret
        exact ⟨by simp, hB6⟩
      | true =>
        go_wp2_with (fail)
        refine (HPb.out w6 (HL.out w6 hB6)).mono ?_
        rintro e w7 ⟨rfl, hw7⟩
        have hB7 := hB6.trans (hw7.mono hB6.size)
        clear hw7 hB6
        cases p2 with
        | false =>
          go_wp2_with (fail)
          go_ret
          exact ⟨by simp, hB7⟩
        | true =>
          go_wp2_with (fail)
          refine (HWca.out w7 (HL.out w7 hB7)).mono ?_
          rintro e w8 ⟨rfl, hw8⟩
          have hB8 := hB7.trans (hw8.mono hB7.size)
          clear hw8 hB7
          cases wi with
          | false =>
            go_wp2_with (fail)
            go_ret
            exact ⟨by simp, hB8⟩
          | true =>
            go_wp2_with (fail)
            go_ret
            exact ⟨by simp, hB8⟩

    · have c2 : decide (y ≤ 0) = false := by simp; omega
      clear hx
      go_enter Tryd.func5, Tryd.ntmps5
      go_wp2_with (fail)
      refine HAW.out.mono ?_
      rintro e w1 ⟨rfl, hw1⟩
      go_wp2_with (fail)
      refine (HO1.out w1).mono ?_
      rintro e w2 ⟨rfl, hw2⟩
      have hB2 := hw1.trans (hw2.mono hw1.size)
      clear hw1 hw2
      go_wp2_with (fail)
      refine (HO2.out w2).mono ?_
      rintro e w3 ⟨rfl, hw3⟩
      have hB3 := hB2.trans (hw3.mono hB2.size)
      clear hw3 hB2
      go_wp2_with (fail)
      refine (HO3.out w3).mono ?_
      rintro e w4 ⟨rfl, hw4⟩
      have hB4 := hB3.trans (hw4.mono hB3.size)
      clear hw4 hB3
      go_wp2_with (fail)
      refine (HO4.out w4).mono ?_
      rintro e w5 ⟨rfl, hw5⟩
      have hB5 := hB4.trans (hw5.mono hB4.size)
      clear hw5 hB4
      go_wp2_with (fail)
      refine (HPa.out w5 (HL.out w5 hB5)).mono ?_
      rintro e w6 ⟨rfl, hw6⟩
      have hB6 := hB5.trans (hw6.mono hB5.size)
      clear hw6 hB5
      cases p1 with
      | false =>
        go_wp2_with (fail)
        go_ret
        exact ⟨by simp, hB6⟩
      | true =>
        go_wp2_with (fail)
        refine (HPb.out w6 (HL.out w6 hB6)).mono ?_
        rintro e w7 ⟨rfl, hw7⟩
        have hB7 := hB6.trans (hw7.mono hB6.size)
        clear hw7 hB6
        cases p2 with
        | false =>
          go_wp2_with (fail)
          go_ret
          exact ⟨by simp, hB7⟩
        | true =>
          go_wp2_with (fail)
          refine (HWca.out w7 (HL.out w7 hB7)).mono ?_
          rintro e w8 ⟨rfl, hw8⟩
          have hB8 := hB7.trans (hw8.mono hB7.size)
          clear hw8 hB7
          cases wi with
          | false =>
            go_wp2_with (fail)
            go_ret
            exact ⟨by simp, hB8⟩
          | true =>
            go_wp2_with (fail)
            go_ret
            exact ⟨by simp, hB8⟩

  · have c1 : decide (x ≤ 0) = false := by simp; omega
    have c4 : decide (x < 0) = false := by simp; omega
    go_enter Tryd.func5, Tryd.ntmps5
    go_wp2_with (fail)
    refine HAW.out.mono ?_
    rintro e w1 ⟨rfl, hw1⟩
    go_wp2_with (fail)
    refine (HO1.out w1).mono ?_
    rintro e w2 ⟨rfl, hw2⟩
    have hB2 := hw1.trans (hw2.mono hw1.size)
    clear hw1 hw2
    go_wp2_with (fail)
    refine (HO2.out w2).mono ?_
    rintro e w3 ⟨rfl, hw3⟩
    have hB3 := hB2.trans (hw3.mono hB2.size)
    clear hw3 hB2
    go_wp2_with (fail)
    refine (HO3.out w3).mono ?_
    rintro e w4 ⟨rfl, hw4⟩
    have hB4 := hB3.trans (hw4.mono hB3.size)
    clear hw4 hB3
    go_wp2_with (fail)
    refine (HO4.out w4).mono ?_
    rintro e w5 ⟨rfl, hw5⟩
    have hB5 := hB4.trans (hw5.mono hB4.size)
    clear hw5 hB4
    go_wp2_with (fail)
    refine (HPa.out w5 (HL.out w5 hB5)).mono ?_
    rintro e w6 ⟨rfl, hw6⟩
    have hB6 := hB5.trans (hw6.mono hB5.size)
    clear hw6 hB5
    cases p1 with
    | false =>
      go_wp2_with (fail)
      go_ret
      exact ⟨by simp, hB6⟩
    | true =>
      go_wp2_with (fail)
      refine (HPb.out w6 (HL.out w6 hB6)).mono ?_
      rintro e w7 ⟨rfl, hw7⟩
      have hB7 := hB6.trans (hw7.mono hB6.size)
      clear hw7 hB6
      cases p2 with
      | false =>
        go_wp2_with (fail)
        go_ret
        exact ⟨by simp, hB7⟩
      | true =>
        go_wp2_with (fail)
        refine (HWca.out w7 (HL.out w7 hB7)).mono ?_
        rintro e w8 ⟨rfl, hw8⟩
        have hB8 := hB7.trans (hw8.mono hB7.size)
        clear hw8 hB7
        cases wi with
        | false =>
          go_wp2_with (fail)
          go_ret
          exact ⟨by simp, hB8⟩
        | true =>
          go_wp2_with (fail)
          go_ret
          exact ⟨by simp, hB8⟩

open Go.ChangeShapes Go.WideShapes Go.ChangeAt in
/-- What the walk gives, for every argument. -/
theorem NameOrder_contract (H : Type) (enc : TypeId × Value → H) (W : World) (base : Nat) (args : Array Value) (ds gs : List (DataW H)) (before : List MemPlace)
    (hval : ∀ (j : Nat) t v, Tryd.f5.params[j]? = some t → args[j]? = some v → Value.okWide Tryd.prog W .any base t v)
    (hW : DataW.Whole enc Tryd.prog Tryd.f5.params.toList Rows.nameOrderSpec.vars false W args.toList ds gs before) (hL : laidMetH Tryd.prog Rows.nameOrderRow.laid W) (hS : W.ShapedOpen Tryd.prog) :
    Calls Tryd.prog 5 args W fun e W' => ∃ v, e = .returned v ∧ Rows.nameOrderSpec.post enc Tryd.prog Tryd.f5 false true false false W args v W' := by
  have hW' := hW
  obtain ⟨p, q, hA0, hV, rfl, hfz, hnd⟩ := hW
  have hA : DataW.TrodAll enc Tryd.prog W 0 (fun _ => true) true Tryd.f5.params.toList args.toList ds p := hA0
  rw [Tryd.params5] at hA hval
  obtain ⟨v0, vs0, d0, ds0, p0, q0, hargs, rfl, rfl, h0, r0⟩ := trodAll_cons hA
  obtain ⟨v1, vs1, d1, ds1, p1, q1, rfl, rfl, rfl, h1, r1⟩ := trodAll_cons r0
  obtain ⟨v2, vs2, d2, ds2, p2, q2, rfl, rfl, rfl, h2, r2⟩ := trodAll_cons r1
  obtain ⟨rfl, rfl, rfl⟩ := trodAll_nil r2
  obtain rfl : args = #[v0, v1, v2] := by cases args; simp_all
  obtain ⟨rfl, rfl⟩ := trodVars_none hV
  obtain ⟨x0, rfl, rfl, rfl, k0⟩ := ChangeMaps.open_string Tryd.underlying9 (hval 0 9 v0 rfl rfl) h0
  have k0 : x0.data.toList.length ≤ 9223372036854775807 := by unfold maxLen at k0; simpa using k0
  obtain ⟨x1, rfl, rfl, rfl, k1⟩ := ChangeMaps.open_string Tryd.underlying9 (hval 1 9 v1 rfl rfl) h1
  have k1 : x1.data.toList.length ≤ 9223372036854775807 := by unfold maxLen at k1; simpa using k1
  obtain ⟨x2, rfl, rfl, rfl, k2⟩ := ChangeMaps.open_string Tryd.underlying9 (hval 2 9 v2 rfl rfl) h2
  have k2 : x2.data.toList.length ≤ 9223372036854775807 := by unfold maxLen at k2; simpa using k2
  clear hA0
  obtain ⟨m, hm⟩ := laid_of hL hS
  refine (NameOrder_any _ _ _ m W hm (by unfold maxLen at *; omega) (by unfold maxLen at *; omega) (by unfold maxLen at *; omega)).mono ?_
  exact fun e W' ⟨he, hb⟩ => ⟨_, he, law_post rfl hW' rfl (by kernel_rfl) Tryd.underlying4 (by kernel_rfl) laidOut hb⟩

open Go.ChangeShapes Go.WideShapes Go.ChangeAt in
theorem NameOrder_met (os : Os) : laidMet Tryd.prog Rows.nameOrderRow.laid ((laidWorld os).forCall (fun _ _ => 0) ⟨#[], #[.string ⟨#[]⟩, .string ⟨#[]⟩, .string ⟨#[]⟩], []⟩).memory :=
  laidMet_of_run' 8 (by kernel_rfl) (by kernel_rfl)
open Go.ChangeShapes Go.WideShapes Go.ChangeAt in
theorem NameOrder_reads (os : Os) {H : Type} (enc : TypeId × Value → H) : ∃ places, DataW.whole enc Tryd.prog ((laidWorld os).forCall (fun _ _ => 0) ⟨#[], #[.string ⟨#[]⟩, .string ⟨#[]⟩, .string ⟨#[]⟩], []⟩).memory Tryd.f5.params.toList Rows.nameOrderSpec.vars false #[.string ⟨#[]⟩, .string ⟨#[]⟩, .string ⟨#[]⟩].toList 8 = some ([.lit (.string []), .lit (.string []), .lit (.string [])], [], places) :=
  ⟨[], by kernel_rfl⟩

open Go.ChangeShapes Go.WideShapes Go.ChangeAt in
set_option maxRecDepth 100000 in
theorem NameOrder_lifted (os : Os) (started : os.Started) (H : Type) (enc : TypeId × Value → H) (F : Stop.Interp) :
    ReturnsInHanded {} Tryd.checked os 5 .any ((OpenSpec.ofChange Rows.nameOrderSpec).preRow enc Tryd.prog Tryd.f5 Rows.nameOrderRow.domain false Rows.nameOrderRow.laid) (((OpenSpec.ofChange Rows.nameOrderSpec).at F).post enc Tryd.prog Tryd.f5 false true false false) := by
  obtain ⟨places, hx⟩ := NameOrder_reads os enc
  refine returnsInHanded_of_row (C := Tryd.checked) (s := OpenSpec.ofChange Rows.nameOrderSpec) own started (by kernel_rfl) Tryd.func5
    (witness_row_at (enc := enc) (C := Tryd.checked) false (laidWorld os) #[.string ⟨#[]⟩, .string ⟨#[]⟩, .string ⟨#[]⟩] rfl (by kernel_rfl) (by kernel_rfl) (by kernel_rfl)
      (OpenSpec.preRow_of_cond 8 hx (by kernel_rfl) (fun k hk => by cases hk) (by kernel_rfl) (NameOrder_met os))) ?_
  intro W base args ds gs before hval hW _ hcond _ hL hS _
  exact NameOrder_contract H enc W base args ds gs before hval hW hL hS

theorem NameOrder_said : Rows.NameOrderSaid :=
  OpenClaim.holds_of_cond 5 Tryd.f5 rfl rfl rfl rfl rfl rfl rfl ⟨rfl, rfl, rfl, rfl, rfl⟩ rfl rfl rfl rfl rfl (by kernel_rfl) Tryd.func5 (by kernel_rfl)
    (of_decide_eq_true (by kernel_rfl)) (by unfold Func.isWrapper; first | (rw [if_pos (by decide +kernel)]; kernel_rfl) | (rw [if_neg (by decide +kernel)]; exact ⟨rfl, rfl⟩))
    (fun os started H enc _ F => by rw [OpenClaim.pre_eq_preRow]; exact NameOrder_lifted os started H enc F)

theorem NameOrder_holds : Rows.NameOrderCardSaid :=
  Claim7.holds_tied_plain_at .later [] _ _ _ _ NameOrder_said (fun _ h => by cases h) (by kernel_rfl) (fun _ h => by cases h) nameOrder_row_tie rfl ⟨rfl, rfl⟩ (by kernel_rfl) rfl
    (card_plain (f0 := 5) (fn0 := Tryd.f5) (by kernel_rfl) Tryd.func5 (by kernel_rfl) (by kernel_rfl)) (by kernel_rfl)
end Go.Proofs.YtpfpjinkifggdaaDoor
