/- hawserref02.Match. -/
import Derived.Test.YtgppfcaghjbjmaaDoorGlobR7
import Derived.Test.YtgppfcaghjbjmaaDoorGlob7
import Derived.Test.YtgppfcaghjbjmaaDoorNameRef
set_option linter.unusedVariables false
namespace Go.Proofs.YtgppfcaghjbjmaaDoor
open Go.RowKit Plain

set_option maxHeartbeats 1000000 in
set_option maxRecDepth 100000 in
theorem Match_ref (p s : List UInt8) (w : World) (hs : s.length ≤ 8796093022200) :
    Calls Tryd.prog 10 #[.string ⟨p.toArray⟩, .string ⟨s.toArray⟩] w (Ret w (.bool (matchG p s))) := by
  have hC := Check_ref p w
  have HPP := Lib.hid (fun W => Path_ref s W hs)
  cases hok : okG p with
  | false =>
    have HR := Lib.hid (matchG_off (s := s) (.inl hok))
    have he : (((checkP 400 p).2 : Int) != 0) = true := by
      unfold okG at hok
      rw [beq_eq_false_iff_ne] at hok
      rw [bne_iff_ne]; omega
    generalize (checkP 400 p).2 = e at *
    generalize (checkP 400 p).1 = k at *
    have HC := Lib.hid hC
    clear hC hok HPP
    go_enter Tryd.func10, Tryd.ntmps10
    go_wp2_with (fail)
    refine HC.out.mono ?_
    rintro e w1 ⟨rfl, hw1⟩
    go_wp2_with (fail)
    go_ret
    exact ⟨by rw [HR.out]; rfl, hw1⟩
  | true =>
    have hck := okG_ok hok
    have he : (checkP 400 p).2 = 0 := okG_iff.1 hok
    rw [he] at hC
    generalize (checkP 400 p).1 = k at *
    have HC := Lib.hid hC
    clear hC he
    cases hpa : pathOK s with
    | false =>
      have HR := Lib.hid (matchG_off (p := p) (.inr hpa))
      rw [hpa] at HPP
      clear hok hpa hck
      go_enter Tryd.func10, Tryd.ntmps10
      go_wp2_with (fail)
      refine HC.out.mono ?_
      rintro e w1 ⟨rfl, hw1⟩
      go_wp2_with (fail)
      refine (HPP.out _).mono ?_
      rintro e w2 ⟨rfl, hw2⟩
      go_wp2_with (fail)
      go_ret
      exact ⟨by rw [HR.out]; rfl, hw1.trans (hw2.mono hw1.size)⟩
    | true =>
      rw [hpa] at HPP
      obtain ⟨hne, h400, hv, hparts⟩ := hck
      have hs400 := pathOK_len hpa
      have hnames := fun x (hx : x ∈ parts s) => name_valid (pathOK_mem hpa hx)
      have hPA := fun W => Parts_ref p W (by omega)
      have hPB := fun W => Parts_ref s W hs
      have HPB := Lib.hid hPB
      have hsl : (parts s).length ≤ 65536 := by rw [parts_length]; have := List.count_le_length (a := (47 : UInt8)) (l := s); omega
      by_cases h47 : 47 ∈ p
      · have h2 : p ≠ [42, 42] := by rintro rfl; simp at h47
        have hpl2 : 2 ≤ (parts p).length := by
          rw [parts_length]
          have := List.count_pos_iff.2 h47
          omega
        have HR := Lib.hid (matchG_slash hok hpa h2 h47)
        have hpl1 : (parts p).length ≤ 65536 := by rw [parts_length]; have := List.count_le_length (a := (47 : UInt8)) (l := p); omega
        have HPA := Lib.hid (fun A c B d W hc hd h1 h2 => parts_ref _ (parts p) (parts s) A B c d W (Nat.le_refl _) (fun x hx => ⟨(hparts x hx).1, (hparts x hx).2, by have := part_len hx; omega⟩) (fun x hx => ⟨hnames x hx, by have := part_len hx; omega⟩) hpl1 hsl hc hd h1 h2)
        have HP := Lib.hid hPA
        rw [show partsP (parts p) (parts s) = matchT ((parts p).map partsTok) (parts s) from rfl] at HR
        clear hok hpa hnames hparts hv hpl1 h47 h2 hPA hPB hsl
        generalize matchT ((parts p).map partsTok) (parts s) = res at *
        generalize parts p = lp at *
        generalize parts s = ls at *
        have hne1 : ((lp.length : Int) == 1) = false := by rw [beq_eq_false_iff_ne]; omega
        go_enter Tryd.func10, Tryd.ntmps10
        go_wp2_with (fail)
        refine HC.out.mono ?_
        rintro e w1 ⟨rfl, hw1⟩
        go_wp2_with (fail)
        refine (HPP.out _).mono ?_
        rintro e w2 ⟨rfl, hw2⟩
        have hB2 := hw1.trans (hw2.mono hw1.size)
        clear hw1 hw2
        go_wp2_with (fail)
        refine (HP.out _).mono ?_
        rintro e w3 ⟨A, c, rfl, hc, hm, hr, hw3, hA0⟩
        have hB3 := hB2.trans (hw3.mono hB2.size)
        clear hw3 hB2
        go_wp2_with (fail)
        refine (HPB.out _).mono ?_
        rintro e w4 ⟨B, d, rfl, hd, hm2, hr2, hw4, hA02⟩
        have hB4 := hB3.trans (hw4.mono hB3.size)
        have hr4 := hr.below hw4
        clear hw4 hB3 hr
        have HQ := Lib.hid (HPA.out A c B d w4 hc hd hr4 hr2)
        clear HPA hc hd hm hm2 hA0 hA02 hr4 hr2
        go_wp2_with (fail)
        refine HQ.out.mono ?_
        rintro e w5 ⟨rfl, hw5⟩
        go_wp2_with (fail)
        go_ret
        exact ⟨by rw [HR.out]; rfl, hB4.trans (hw5.mono hB4.size)⟩
      · have hpn := parts_none p h47
        rw [hpn] at hPA
        have HP := Lib.hid hPA
        obtain ⟨k2, hk2⟩ : ∃ k, (parts s).length = k + 1 := ⟨s.count 47, parts_length s⟩
        by_cases h2 : p = [42, 42]
        · subst h2
          have HR := Lib.hid (matchG_2stars hpa)
          clear hok hpa hnames hparts hv hPA hPB hsl hpn h47 hne h400
          generalize parts s = ls at *
          go_enter Tryd.func10, Tryd.ntmps10
          go_wp2_with (fail)
          refine HC.out.mono ?_
          rintro e w1 ⟨rfl, hw1⟩
          go_wp2_with (fail)
          refine (HPP.out _).mono ?_
          rintro e w2 ⟨rfl, hw2⟩
          have hB2 := hw1.trans (hw2.mono hw1.size)
          clear hw1 hw2
          go_wp2_with (fail)
          refine (HP.out _).mono ?_
          rintro e w3 ⟨A, c, rfl, hc, hm, hr, hw3, hA0⟩
          have hB3 := hB2.trans (hw3.mono hB2.size)
          clear hw3 hB2 hc hm hr hA0
          go_wp2_with (fail)
          refine (HPB.out _).mono ?_
          rintro e w4 ⟨B, d, rfl, hd, hm2, hr2, hw4, hA02⟩
          have hB4 := hB3.trans (hw4.mono hB3.size)
          clear hw4 hB3 hd hm2 hr2 hA02
          go_wp2_with (fail)
          go_ret
          exact ⟨by rw [HR.out]; rfl, hB4⟩
        · have h2b : (p == [42, 42]) = false := by rw [beq_eq_false_iff_ne]; exact h2
          have hpp : Lib.validD p = true ∧ wfP p = true := hparts p (by rw [hpn]; simp)
          have hlast : ∀ h : k2 < (parts s).length, (parts s)[k2] = baseM s := fun h => by
            rw [base_last hpa, List.getLast_eq_getElem]
            congr 1; omega
          have hbv : Lib.validD (baseM s) = true ∧ (baseM s).length ≤ s.length := by
            rw [base_last hpa]
            have hm : (parts s).getLast (parts_ne s) ∈ parts s := List.getLast_mem _
            exact ⟨hnames _ hm, part_len hm⟩
          have HR := Lib.hid (matchG_base hok hpa h2 h47)
          have HRU := Lib.hid (fun W => Runes_ref (baseM s) W hbv.1 (by omega))
          have hYl : (runesP (baseM s)).length ≤ 65536 := Nat.le_trans (lits_le (baseM s) hbv.1 _ (Nat.le_refl _)) (by omega)
          have HPT := Lib.hid (fun A cA W (hcA : (runesP (baseM s)).length ≤ cA) hr => part_ref _ p (runesP (baseM s)) A cA W (Nat.le_refl _) hpp.1 hpp.2 (by omega) hYl hcA hr)
          rw [show partP p (baseM s) = matchT (toksP p) (runesP (baseM s)) from rfl] at HR
          have e1 : IntKind.i64.wrap (k2 : Int) = k2 := IntWalk.i64_in _ (by omega)
          have k0 : (0 : Int) ≤ k2 := by omega
          have k1 : (k2 : Int) < (k2 : Int) + 1 := by omega
          clear hok hpa hnames hparts hv hPA hPB hpn h47 h2 hpp hbv hYl
          generalize matchT (toksP p) (runesP (baseM s)) = res at *
          generalize runesP (baseM s) = Y at *
          generalize parts s = ls at *
          generalize baseM s = bs at *
          go_enter Tryd.func10, Tryd.ntmps10
          go_wp2_with (fail)
          refine HC.out.mono ?_
          rintro e w1 ⟨rfl, hw1⟩
          go_wp2_with (fail)
          refine (HPP.out _).mono ?_
          rintro e w2 ⟨rfl, hw2⟩
          have hB2 := hw1.trans (hw2.mono hw1.size)
          clear hw1 hw2
          go_wp2_with (fail)
          refine (HP.out _).mono ?_
          rintro e w3 ⟨A, c, rfl, hc, hm, hr, hw3, hA0⟩
          have hB3 := hB2.trans (hw3.mono hB2.size)
          clear hw3 hB2 hc hm hr hA0
          go_wp2_with (fail)
          refine (HPB.out _).mono ?_
          rintro e w4 ⟨B, d, rfl, hd, hm2, hr2, hw4, hA02⟩
          have hB4 := hB3.trans (hw4.mono hB3.size)
          obtain ⟨ad, rfl, cZ⟩ := hr2.str_at (k := k2) (by omega)
          rw [hlast] at cZ
          clear hw4 hB3 hd hm2 hr2 hA02 hlast
          rw [hk2]
          clear hk2
          go_wp2_with (fail)
          refine (HRU.out _).mono ?_
          rintro e w5 ⟨A5, c5, rfl, hc5, hm5, hr5, hw5, _⟩
          have hB5 := hB4.trans (hw5.mono hB4.size)
          have HQ := Lib.hid (HPT.out A5 c5 w5 hc5 hr5)
          clear hw5 hB4 hc5 hr5 hm5 cZ
          go_wp2_with (fail)
          refine HQ.out.mono ?_
          rintro e w6 ⟨rfl, hw6⟩
          go_wp2_with (fail)
          go_ret
          exact ⟨by rw [HR.out]; rfl, hB5.trans (hw6.mono hB5.size)⟩
end Go.Proofs.YtgppfcaghjbjmaaDoor
