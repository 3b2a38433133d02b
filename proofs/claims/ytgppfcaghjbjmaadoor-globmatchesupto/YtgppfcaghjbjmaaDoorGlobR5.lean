/- hawserref02.one. -/
import Derived.Test.YtgppfcaghjbjmaaDoorGlobR4
import Derived.Test.YtgppfcaghjbjmaaDoorGlob4
import Derived.Test.YtgppfcaghjbjmaaDoorLoads
set_option linter.unusedVariables false
namespace Go.Proofs.YtgppfcaghjbjmaaDoor
open Go.RowKit Plain

theorem set_head {q I : List UInt8} {e : Nat} (he : 2 ≤ e) (h : ((91 :: q : List UInt8).take e).drop 1 = I) : I.head? = q.head? := by
  obtain ⟨e', rfl⟩ : ∃ e', e = e' + 1 + 1 := ⟨e - 2, by omega⟩
  rw [← h]
  cases q <;> simp

set_option maxHeartbeats 600000 in
set_option maxRecDepth 100000 in
theorem one_ref (c : UInt8) (q t : List UInt8) (w : World) (hv : Lib.validD (c :: q) = true) (hw : wfP (c :: q) = true) (hs : (c :: q).length ≤ 65536) :
    Calls Tryd.prog 50 #[.string ⟨(c :: q : List UInt8).toArray⟩, .int .i64 0, .string ⟨t.toArray⟩] w (Ret w (.tuple #[.bool (oneP (c :: q) t).1, .int .i64 ((oneP (c :: q) []).2 : Nat)])) := by
  have hql : q.length ≤ 65536 := by simp at hs; omega
  by_cases h63 : c = 63
  · subst h63
    rw [one_q, one_q]
    clear hv hw
    go_enter Tryd.func50, Tryd.ntmps50
    go_wp2_with (fail)
    go_ret2
    exact ⟨rfl, Below.refl _ _⟩
  by_cases h91 : c = 91
  · subst h91
    obtain ⟨e, he, hw2⟩ := wfP_set hw
    obtain ⟨a1, a2, a3, a4⟩ := inner_valid hv he
    have hev := close_even hv he
    have hcl : Calls Tryd.prog 49 #[.string ⟨(91 :: q : List UInt8).toArray⟩, .int .i64 0] w (Ret w (.int .i64 (e : Nat))) := by
      have h := closing_ref (91 :: q) 0 w (by simp) hs
      rw [List.drop_zero, he] at h
      have e0 : clI 0 (some e) = (e : Int) := by show ((0 + e : Nat) : Int) = _; omega
      rw [e0] at h
      exact h
    rw [one_set t he, one_set [] he]
    have hil : (((91 :: q : List UInt8).take e).drop 1).length = e - 1 := by simp at a2 ⊢; omega
    have hin : (((91 :: q : List UInt8).take e).drop 1) = q.take (e - 1) := by
      obtain ⟨e', rfl⟩ : ∃ e', e = e' + 1 := ⟨e - 1, by omega⟩
      simp
    obtain ⟨I, hI⟩ : ∃ I, ((91 :: q : List UInt8).take e).drop 1 = I := ⟨_, rfl⟩
    have hhd := set_head a1 hI
    have hevI : evenR false (runesP (if q.head? = some 33 then I.drop 1 else I)) = true := by
      have h1 : ((91 :: q : List UInt8).take e).drop (setFrom (91 :: q)) = if q.head? = some 33 then I.drop 1 else I := by
        by_cases h : q.head? = some 33
        · rw [setFrom_2 h, if_pos h, ← hI, List.drop_drop]
        · rw [setFrom_1 h, if_neg h, hI]
      rw [← h1]; exact hev
    rw [hI] at a3 hil hin ⊢
    replace hin := hin.symm
    rw [← hhd] at hevI
    have HCL := Lib.hid hcl
    have HIN := Lib.hid hin
    have he1 : (1 : Int) ≤ e := by omega
    have he2 : (e : Int) ≤ (q.length : Int) + 1 := by simp at a2; omega
    have hw1 : IntKind.i64.wrap ((e : Int) + 1) = (e : Int) + 1 := IntWalk.i64_in _ (by simp at a2; omega)
    have he0 : (0 : Int) ≤ e := by omega
    clear hcl he hw2 a4 hv hw h63 hev hI hhd
    cases I with
    | nil => simp at hil; omega
    | cons x J =>
      by_cases h33 : x = 33
      · subst h33
        rw [List.head?_cons, if_pos rfl] at hevI
        replace hevI : evenR false (runesP J) = true := hevI
        have hH := fun W => holds_ref J t W (bang_valid a3) hevI (by simp at hil a2; omega)
        have HH := Lib.hid hH
        have hjl : List.take (e - 1 - 1) J = J := List.take_of_length_le (by simp at hil; omega)
        rw [show holdsP (33 :: J) t = !holdL (litsP (runesP J)) t from rfl]
        generalize holdL (litsP (runesP J)) t = b at *
        clear hH hevI a3
        go_enter Tryd.func50, Tryd.ntmps50
        go_wp2_with (fail)
        refine HCL.out.mono ?_
        rintro ee w1 ⟨rfl, hw1'⟩
        go_wp2_with (fail)
        refine (HH.out _).mono ?_
        rintro ee w2 ⟨rfl, hw2'⟩
        go_wp2_with (fail)
        go_ret2
        exact ⟨by cases b <;> rfl, hw1'.trans (hw2'.mono hw1'.size)⟩
      · have hx : (x :: J).head? ≠ some 33 := fun h => h33 (by injection h)
        rw [if_neg hx] at hevI
        have hH := fun W => holds_ref (x :: J) t W a3 hevI (by simp at hil a2 ⊢; omega)
        have HH := Lib.hid hH
        rw [show ∀ r, holdsP (x :: J) r = holdL (litsP (runesP (x :: J))) r from fun r => by unfold holdsP; rw [if_neg hx]]
        have h33' := u8_ne (n := 33) (by omega) h33
        simp only
        generalize holdL (litsP (runesP (x :: J))) t = b at *
        clear hH hevI a3 h33 hx
        go_enter Tryd.func50, Tryd.ntmps50
        go_wp2_with (fail)
        refine HCL.out.mono ?_
        rintro ee w1 ⟨rfl, hw1'⟩
        go_wp2_with (fail)
        refine (HH.out _).mono ?_
        rintro ee w2 ⟨rfl, hw2'⟩
        go_wp2_with (fail)
        go_ret2
        exact ⟨by cases b <;> rfl, hw1'.trans (hw2'.mono hw1'.size)⟩
  by_cases h92 : c = 92
  · subst h92
    cases q with
    | nil => rw [wfP_back_nil] at hw; cases hw
    | cons d q =>
      rw [Lib.validD_cons _ _ (by decide)] at hv
      have hne : (d :: q) ≠ [] := by simp
      obtain ⟨hw1, _⟩ := valid_next hne hv
      have hr1 := (runeT_rune hne hw1).2.2
      have hR := Runes_ref (d :: q) w hv hql
      rw [runesP_step hne hw1] at hR
      rw [one_back, one_back]
      have hlen := runeW_le' hne
      rw [← hr1] at hlen ⊢
      generalize runeT (d :: q) = y at *
      generalize runesP ((d :: q).drop (runeW (d :: q))) = Y at *
      obtain ⟨Z, hZ⟩ : ∃ Z, y :: Y = Z := ⟨_, rfl⟩
      have hZ0 : 0 < Z.length := by rw [← hZ]; simp
      have hZe : Z[0] = y := by simp [← hZ]
      rw [hZ] at hR
      have HR := Lib.hid hR
      have hyl : y.length ≤ 65536 := by omega
      have hw1 : IntKind.i64.wrap (1 + (y.length : Int)) = 1 + (y.length : Int) := IntWalk.i64_in _ (by omega)
      have hz0 : (0 : Int) < (Z.length : Int) := by omega
      clear hR hv hw hr1 hne h63 h91 hZ
      go_enter Tryd.func50, Tryd.ntmps50
      go_wp2_with (fail)
      refine HR.out.mono ?_
      rintro ee w1 ⟨AX, cX, rfl, hcX, hmX, hrX, hw1', _⟩
      obtain ⟨ad, rfl, cZ⟩ := hrX.str_at hZ0
      rw [hZe] at cZ
      replace cZ : w1.cell? ad = some (.string ⟨y.toArray⟩) := cZ
      have HC := Lib.hid cZ
      clear cZ hrX hZe
      go_wp2_with (fail)
      refine wp_region_below (by kernel_rfl) (by kernel_rfl) ?_
      repeat first
        | (go_big_quiet_want; refine quiet_load_cell 9 _ rfl _ rfl _ _ HC.out Tryd.underlying9 rfl ?_; simp only [Act.put, List.setIfInBounds_toArray, List.set_cons_succ, List.set_cons_zero]; go_big_quiet_on)
        | go_big_quiet_step ((fail))
      refine wpQuiet_nil ?_
      intro W2 hW2
      go_wp2_with (fail)
      go_ret2
      exact ⟨by simp, hw1'.trans (hW2.mono hw1'.size)⟩
  · rw [one_plain t h63 h92 h91, one_plain [] h63 h92 h91]
    have hne : (c :: q) ≠ [] := by simp
    obtain ⟨hw1, _⟩ := valid_next hne hv
    have hr1 := (runeT_rune hne hw1).2.2
    have hR := Runes_ref (c :: q) w hv hs
    rw [runesP_step hne hw1] at hR
    have hlen := runeW_le' hne
    rw [← hr1] at hlen ⊢
    have h63' := u8_ne (n := 63) (by omega) h63
    have h92' := u8_ne (n := 92) (by omega) h92
    have h91' := u8_ne (n := 91) (by omega) h91
    generalize runeT (c :: q) = y at *
    generalize runesP ((c :: q).drop (runeW (c :: q))) = Y at *
    obtain ⟨Z, hZ⟩ : ∃ Z, y :: Y = Z := ⟨_, rfl⟩
    have hZ0 : 0 < Z.length := by rw [← hZ]; simp
    have hZe : Z[0] = y := by simp [← hZ]
    rw [hZ] at hR
    have HR := Lib.hid hR
    have hyl : y.length ≤ 65536 := by omega
    have hz0 : (0 : Int) < (Z.length : Int) := by omega
    clear hR hv hw hr1 hne h63 h91 h92 hZ hw1
    go_enter Tryd.func50, Tryd.ntmps50
    go_wp2_with (fail)
    refine HR.out.mono ?_
    rintro ee w1 ⟨AX, cX, rfl, hcX, hmX, hrX, hw1', _⟩
    obtain ⟨ad, rfl, cZ⟩ := hrX.str_at hZ0
    rw [hZe] at cZ
    replace cZ : w1.cell? ad = some (.string ⟨y.toArray⟩) := cZ
    have HC := Lib.hid cZ
    clear cZ hrX hZe
    go_wp2_with (fail)
    refine wp_region_below (by kernel_rfl) (by kernel_rfl) ?_
    repeat first
      | (go_big_quiet_want; refine quiet_load_cell 9 _ rfl _ rfl _ _ HC.out Tryd.underlying9 rfl ?_; simp only [Act.put, List.setIfInBounds_toArray, List.set_cons_succ, List.set_cons_zero]; go_big_quiet_on)
      | go_big_quiet_step ((fail))
    refine wpQuiet_nil ?_
    intro W2 hW2
    go_wp2_with (fail)
    go_ret2
    exact ⟨by simp, hw1'.trans (hW2.mono hw1'.size)⟩
end Go.Proofs.YtgppfcaghjbjmaaDoor
