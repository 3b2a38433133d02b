/- hawserlaw02.GlobRules: what a list of rules ignores, and whether it is one, is the document's. The condition: the arguments' bulk is what a machine can hold (Upto). -/
import Derived.Test.YtgppfcaghjbjmaaDoorBGlobRules11
import Derived.Test.YtgppfcaghjbjmaaDoorBGlobRules6
import Derived.Test.YtgppfcaghjbjmaaDoorBGlobRules8
import Derived.Test.YtgppfcaghjbjmaaDoorBGlobRules7
import Derived.Test.YtgppfcaghjbjmaaDoorShelf
import Derived.Test.YtgppfcaghjbjmaaDoorBGlobRules1
import Derived.Shelf.Vars
import Derived.Test.YtgppfcaghjbjmaaDoorCards
import Derived.LaidMore
import Derived.ChangeArms
import Derived.Test.YtgppfcaghjbjmaaDoorTie
import Derived.Deep.DeepHandedRow
import Derived.Lib.SmallJoins
import Derived.Test.YtgppfcaghjbjmaaDoorBGlobRules10

/- hawserref02.Match. -/
section
set_option linter.unusedVariables false
namespace Go.Proofs.YtgppfcaghjbjmaaDoor
open Go.RowKit Plain

set_option maxHeartbeats 1000000 in
set_option maxRecDepth 100000 in
theorem Match_ref (p s : List UInt8) (w : World) (hs : s.length ≤ 8796093022200) :
    Calls Tryd.prog 10 #[.string ⟨p.toArray⟩, .string ⟨s.toArray⟩] w (Ret w (.bool (matchG p s))) := by
  have hC := Check_ref p w
  have HPP := Lib.hid (fun W => Path_ref s W hs)
  cases hok : okG p with
  | false =>
    have HR := Lib.hid (matchG_off (s := s) (.inl hok))
    have he : (((checkP 400 p).2 : Int) != 0) = true := by
      unfold okG at hok
      rw [beq_eq_false_iff_ne] at hok
      rw [bne_iff_ne]; omega
    generalize (checkP 400 p).2 = e at *
    generalize (checkP 400 p).1 = k at *
    have HC := Lib.hid hC
    clear hC hok HPP
    go_enter Tryd.func10, Tryd.ntmps10
    go_wp2_with (fail)
    refine HC.out.mono ?_
    rintro e w1 ⟨rfl, hw1⟩
    go_wp2_with (fail)
    go_ret
    exact ⟨by rw [HR.out]; rfl, hw1⟩
  | true =>
    have hck := okG_ok hok
    have he : (checkP 400 p).2 = 0 := okG_iff.1 hok
    rw [he] at hC
    generalize (checkP 400 p).1 = k at *
    have HC := Lib.hid hC
    clear hC he
    cases hpa : pathOK s with
    | false =>
      have HR := Lib.hid (matchG_off (p := p) (.inr hpa))
      rw [hpa] at HPP
      clear hok hpa hck
      go_enter Tryd.func10, Tryd.ntmps10
      go_wp2_with (fail)
      refine HC.out.mono ?_
      rintro e w1 ⟨rfl, hw1⟩
      go_wp2_with (fail)
      refine (HPP.out _).mono ?_
      rintro e w2 ⟨rfl, hw2⟩
      go_wp2_with (fail)
      go_ret
      exact ⟨by rw [HR.out]; rfl, hw1.trans (hw2.mono hw1.size)⟩
    | true =>
      rw [hpa] at HPP
      obtain ⟨hne, h400, hv, hparts⟩ := hck
      have hs400 := pathOK_len hpa
      have hnames := fun x (hx : x ∈ parts s) => name_valid (pathOK_mem hpa hx)
      have hPA := fun W => Parts_ref p W (by omega)
      have hPB := fun W => Parts_ref s W hs
      have HPB := Lib.hid hPB
      have hsl : (parts s).length ≤ 65536 := by rw [parts_length]; have := List.count_le_length (a := (47 : UInt8)) (l := s); omega
      by_cases h47 : 47 ∈ p
      · have h2 : p ≠ [42, 42] := by rintro rfl; simp at h47
        have hpl2 : 2 ≤ (parts p).length := by
          rw [parts_length]
          have := List.count_pos_iff.2 h47
          omega
        have HR := Lib.hid (matchG_slash hok hpa h2 h47)
        have hpl1 : (parts p).length ≤ 65536 := by rw [parts_length]; have := List.count_le_length (a := (47 : UInt8)) (l := p); omega
        have HPA := Lib.hid (fun A c B d W hc hd h1 h2 => parts_ref _ (parts p) (parts s) A B c d W (Nat.le_refl _) (fun x hx => ⟨(hparts x hx).1, (hparts x hx).2, by have := part_len hx; omega⟩) (fun x hx => ⟨hnames x hx, by have := part_len hx; omega⟩) hpl1 hsl hc hd h1 h2)
        have HP := Lib.hid hPA
        rw [show partsP (parts p) (parts s) = matchT ((parts p).map partsTok) (parts s) from rfl] at HR
        clear hok hpa hnames hparts hv hpl1 h47 h2 hPA hPB hsl
        generalize matchT ((parts p).map partsTok) (parts s) = res at *
        generalize parts p = lp at *
        generalize parts s = ls at *
        have hne1 : ((lp.length : Int) == 1) = false := by rw [beq_eq_false_iff_ne]; omega
        go_enter Tryd.func10, Tryd.ntmps10
        go_wp2_with (fail)
        refine HC.out.mono ?_
        rintro e w1 ⟨rfl, hw1⟩
        go_wp2_with (fail)
        refine (HPP.out _).mono ?_
        rintro e w2 ⟨rfl, hw2⟩
        have hB2 := hw1.trans (hw2.mono hw1.size)
        clear hw1 hw2
        go_wp2_with (fail)
        refine (HP.out _).mono ?_
        rintro e w3 ⟨A, c, rfl, hc, hm, hr, hw3, hA0⟩
        have hB3 := hB2.trans (hw3.mono hB2.size)
        clear hw3 hB2
        go_wp2_with (fail)
        refine (HPB.out _).mono ?_
        rintro e w4 ⟨B, d, rfl, hd, hm2, hr2, hw4, hA02⟩
        have hB4 := hB3.trans (hw4.mono hB3.size)
        have hr4 := hr.below hw4
        clear hw4 hB3 hr
        have HQ := Lib.hid (HPA.out A c B d w4 hc hd hr4 hr2)
        clear HPA hc hd hm hm2 hA0 hA02 hr4 hr2
        go_wp2_with (fail)
        refine HQ.out.mono ?_
        rintro e w5 ⟨rfl, hw5⟩
        go_wp2_with (fail)
        go_ret
        exact ⟨by rw [HR.out]; rfl, hB4.trans (hw5.mono hB4.size)⟩
      · have hpn := parts_none p h47
        rw [hpn] at hPA
        have HP := Lib.hid hPA
        obtain ⟨k2, hk2⟩ : ∃ k, (parts s).length = k + 1 := ⟨s.count 47, parts_length s⟩
        by_cases h2 : p = [42, 42]
        · subst h2
          have HR := Lib.hid (matchG_2stars hpa)
          clear hok hpa hnames hparts hv hPA hPB hsl hpn h47 hne h400
          generalize parts s = ls at *
          go_enter Tryd.func10, Tryd.ntmps10
          go_wp2_with (fail)
          refine HC.out.mono ?_
          rintro e w1 ⟨rfl, hw1⟩
          go_wp2_with (fail)
          refine (HPP.out _).mono ?_
          rintro e w2 ⟨rfl, hw2⟩
          have hB2 := hw1.trans (hw2.mono hw1.size)
          clear hw1 hw2
          go_wp2_with (fail)
          refine (HP.out _).mono ?_
          rintro e w3 ⟨A, c, rfl, hc, hm, hr, hw3, hA0⟩
          have hB3 := hB2.trans (hw3.mono hB2.size)
          clear hw3 hB2 hc hm hr hA0
          go_wp2_with (fail)
          refine (HPB.out _).mono ?_
          rintro e w4 ⟨B, d, rfl, hd, hm2, hr2, hw4, hA02⟩
          have hB4 := hB3.trans (hw4.mono hB3.size)
          clear hw4 hB3 hd hm2 hr2 hA02
          go_wp2_with (fail)
          go_ret
          exact ⟨by rw [HR.out]; rfl, hB4⟩
        · have h2b : (p == [42, 42]) = false := by rw [beq_eq_false_iff_ne]; exact h2
          have hpp : Lib.validD p = true ∧ wfP p = true := hparts p (by rw [hpn]; simp)
          have hlast : ∀ h : k2 < (parts s).length, (parts s)[k2] = baseM s := fun h => by
            rw [base_last hpa, List.getLast_eq_getElem]
            congr 1; omega
          have hbv : Lib.validD (baseM s) = true ∧ (baseM s).length ≤ s.length := by
            rw [base_last hpa]
            have hm : (parts s).getLast (parts_ne s) ∈ parts s := List.getLast_mem _
            exact ⟨hnames _ hm, part_len hm⟩
          have HR := Lib.hid (matchG_base hok hpa h2 h47)
          have HRU := Lib.hid (fun W => Runes_ref (baseM s) W hbv.1 (by omega))
          have hYl : (runesP (baseM s)).length ≤ 65536 := Nat.le_trans (lits_le (baseM s) hbv.1 _ (Nat.le_refl _)) (by omega)
          have HPT := Lib.hid (fun A cA W (hcA : (runesP (baseM s)).length ≤ cA) hr => part_ref _ p (runesP (baseM s)) A cA W (Nat.le_refl _) hpp.1 hpp.2 (by omega) hYl hcA hr)
          rw [show partP p (baseM s) = matchT (toksP p) (runesP (baseM s)) from rfl] at HR
          have e1 : IntKind.i64.wrap (k2 : Int) = k2 := IntWalk.i64_in _ (by omega)
          have k0 : (0 : Int) ≤ k2 := by omega
          have k1 : (k2 : Int) < (k2 : Int) + 1 := by omega
          clear hok hpa hnames hparts hv hPA hPB hpn h47 h2 hpp hbv hYl
          generalize matchT (toksP p) (runesP (baseM s)) = res at *
          generalize runesP (baseM s) = Y at *
          generalize parts s = ls at *
          generalize baseM s = bs at *
          go_enter Tryd.func10, Tryd.ntmps10
          go_wp2_with (fail)
          refine HC.out.mono ?_
          rintro e w1 ⟨rfl, hw1⟩
          go_wp2_with (fail)
          refine (HPP.out _).mono ?_
          rintro e w2 ⟨rfl, hw2⟩
          have hB2 := hw1.trans (hw2.mono hw1.size)
          clear hw1 hw2
          go_wp2_with (fail)
          refine (HP.out _).mono ?_
          rintro e w3 ⟨A, c, rfl, hc, hm, hr, hw3, hA0⟩
          have hB3 := hB2.trans (hw3.mono hB2.size)
          clear hw3 hB2 hc hm hr hA0
          go_wp2_with (fail)
          refine (HPB.out _).mono ?_
          rintro e w4 ⟨B, d, rfl, hd, hm2, hr2, hw4, hA02⟩
          have hB4 := hB3.trans (hw4.mono hB3.size)
          obtain ⟨ad, rfl, cZ⟩ := hr2.str_at (k := k2) (by omega)
          rw [hlast] at cZ
          clear hw4 hB3 hd hm2 hr2 hA02 hlast
          rw [hk2]
          clear hk2
          go_wp2_with (fail)
          refine (HRU.out _).mono ?_
          rintro e w5 ⟨A5, c5, rfl, hc5, hm5, hr5, hw5, _⟩
          have hB5 := hB4.trans (hw5.mono hB4.size)
          have HQ := Lib.hid (HPT.out A5 c5 w5 hc5 hr5)
          clear hw5 hB4 hc5 hr5 hm5 cZ
          go_wp2_with (fail)
          refine HQ.out.mono ?_
          rintro e w6 ⟨rfl, hw6⟩
          go_wp2_with (fail)
          go_ret
          exact ⟨by rw [HR.out]; rfl, hB5.trans (hw6.mono hB5.size)⟩
end Go.Proofs.YtgppfcaghjbjmaaDoor
end

/- hawserref01.Split, Parent, Base. -/
section
namespace Go.Proofs.YtgppfcaghjbjmaaDoor
open Go.RowKit Plain

theorem Split_ref (s : List UInt8) (w : World) (hs : s.length ≤ 8796093022200) :
    Calls Tryd.prog 35 #[.string ⟨s.toArray⟩] w (StrsOut w (splitM s)) := by
  have hp := Path_ref s w hs
  have HS := Lib.hid (fun W => Parts_ref s W hs)
  unfold splitM
  generalize parts s = l at *
  cases hok : pathOK s with
  | false =>
    rw [hok] at hp
    have HP := Lib.hid hp
    clear hp hok
    go_enter Tryd.func35, Tryd.ntmps35
    go_wp2_with (fail)
    refine HP.out.mono ?_
    rintro e w1 ⟨rfl, hw1⟩
    go_wp2_with (fail)
    go_ret
    exact ⟨none, 0, rfl, Nat.le_refl _, Nat.zero_le _, Reads.nil _ _ _, hw1, fun _ => rfl⟩
  | true =>
    rw [hok] at hp
    have HP := Lib.hid hp
    clear hp hok
    rw [if_pos rfl]
    go_enter Tryd.func35, Tryd.ntmps35
    go_wp2_with (fail)
    refine HP.out.mono ?_
    rintro e w1 ⟨rfl, hw1⟩
    go_wp2_with (fail)
    refine (HS.out _).mono ?_
    rintro e w2 ⟨A, c, rfl, hc, hm, hr, hw2, h0⟩
    go_wp2_with (fail)
    go_ret
    exact ⟨A, c, rfl, hc, hm, hr, hw1.trans (hw2.mono hw1.size), h0⟩

theorem splitM_length (s : List UInt8) : (splitM s).length ≤ 401 := by
  unfold splitM
  split
  · rename_i h
    have := pathOK_len h
    have := List.count_le_length (a := (47 : UInt8)) (l := s)
    rw [parts_length]; omega
  · simp
theorem Parent_ref (s : List UInt8) (w : World) (hs : s.length ≤ 8796093022200) :
    Calls Tryd.prog 14 #[.string ⟨s.toArray⟩] w (Ret w (.string ⟨(parentM s).toArray⟩)) := by
  have hS := Split_ref s w hs
  by_cases hok : pathOK s = true
  · by_cases h47 : 47 ∈ s
    · obtain ⟨p, q, rfl, hq⟩ := last_cut h47
      have hsp : splitM (p ++ 47 :: q) = parts p ++ [q] := by unfold splitM; rw [if_pos hok, parts_last p q hq]
      rw [hsp] at hS
      have hpar := parent_cut p q hq hok
      have hpn : 1 ≤ (parts p).length := by rw [parts_length]; omega
      have hpn2 := splitM_length (p ++ 47 :: q)
      rw [hsp, List.length_append, List.length_singleton] at hpn2
      have hll : (parts p ++ [q]).length = (parts p).length + 1 := by simp
      have hget : (strs (parts p ++ [q]))[(parts p).length]? = some (.string ⟨q.toArray⟩) := by
        simp [strs, strV]
      have htk : (p ++ 47 :: q).take p.length = p := by simp
      have hlen : ((p ++ 47 :: q).length : Int) = p.length + 1 + q.length := by simp; omega
      have h400 := pathOK_len hok
      have hq400 : p.length + 1 + q.length ≤ 400 := by simp at h400; omega
      unfold StrsOut at hS
      rw [hll] at hS
      generalize parts p = L at *
      have HS := Lib.hid hS
      have HPAR := Lib.hid hpar
      have HGET := Lib.hid hget
      clear hS hpar hok h47 hq hsp hget hll h400
      go_enter Tryd.func14, Tryd.ntmps14
      go_wp2_with (fail)
      refine HS.out.mono ?_
      rintro e w1 ⟨A, c, rfl, hc, hm, hr, hw1, hA0⟩
      obtain ⟨ad, rfl, hcell⟩ := hr.2 (by omega)
      have hc1 := hcell _ _ HGET.out
      have e1 : IntKind.i64.wrap ((L.length : Int) + 1 - 1) = (L.length : Int) := by rw [show (L.length : Int) + 1 - 1 = L.length by omega]; exact IntWalk.i64_in _ (by omega)
      have i1 : (L.length : Int) < (L.length : Int) + 1 := by omega
      clear hr hcell
      go_wp2_with (fail)
      go_ret
      exact ⟨by rw [HPAR.out]; simp; rw [show p.length + (q.length + 1) - q.length - 1 = p.length by omega]; exact htk, hw1⟩
    · have hsp : splitM s = [s] := by unfold splitM; rw [if_pos hok, parts_none s h47]
      rw [hsp] at hS
      rw [parent_none h47]
      have HS := Lib.hid hS
      clear hS hok h47 hsp
      go_enter Tryd.func14, Tryd.ntmps14
      go_wp2_with (fail)
      refine HS.out.mono ?_
      rintro e w1 ⟨A, c, rfl, hc, hm, hr, hw1, hA0⟩
      go_wp2_with (fail)
      go_ret
      exact ⟨rfl, hw1⟩
  · have hf : pathOK s = false := by simpa using hok
    have hsp : splitM s = [] := by unfold splitM; rw [hf]; rfl
    have hpar : parentM s = [] := by unfold parentM; rw [hf]; rfl
    rw [hsp] at hS
    rw [hpar]
    have HS := Lib.hid hS
    clear hS hok hf hsp hpar
    go_enter Tryd.func14, Tryd.ntmps14
    go_wp2_with (fail)
    refine HS.out.mono ?_
    rintro e w1 ⟨A, c, rfl, hc, hm, hr, hw1, hA0⟩
    go_wp2_with (fail)
    go_ret
    exact ⟨rfl, hw1⟩

end Go.Proofs.YtgppfcaghjbjmaaDoor
end

/- hawserref02: last, Ignored. -/
section
set_option linter.unusedVariables false
namespace Go.Proofs.YtgppfcaghjbjmaaDoor
open Go.RowKit Plain

set_option maxHeartbeats 1000000 in
set_option maxRecDepth 100000 in
theorem last_ref (rules : List Rule) (A : Option Addr) (c : Nat) (s : List UInt8) (w : World) (hR : RulesAt w A rules) (hlen : rules.length ≤ 4294967296) (hs : s.length ≤ 8796093022200) :
    Calls Tryd.prog 36 #[.slice A rules.length c, .string ⟨s.toArray⟩] w (Ret w (.bool (lastG rules s))) := by
  have HM := Lib.hid (fun q W => Match_ref q s W hs)
  have HRR := Lib.hid hR
  obtain ⟨res, hres⟩ : ∃ r, lastG rules s = r := ⟨_, rfl⟩
  have HRES := Lib.hid hres
  rw [hres]
  clear hR hs hres
  go_enter Tryd.func36, Tryd.ntmps36
  go_wp2_with (fail)
  go_loopw [5, 6] (fun t5 t6 W => ∃ (i : Nat) (b : Bool), i ≤ rules.length ∧ t5 = .bool b ∧ t6 = .int .i64 i ∧ Hid (lastG (rules.take i) s = b) ∧ Hid (Below w.heap.size w W)) (fun _ t6 _ => rules.length - (intOf t6).toNat)
  case atStart => exact ⟨0, false, by omega, rfl, rfl, Lib.hid rfl, Lib.hid (Below.refl _ _)⟩
  case round =>
    obtain ⟨i, b, hi, rfl, rfl, HLG, HB⟩ := hrel
    have i0 : (0 : Int) ≤ i := by omega
    have e1 : IntKind.i64.wrap ((i : Int) + 1) = (i : Int) + 1 := IntWalk.i64_in _ (by omega)
    by_cases hlt : i < rules.length
    · have i1 : (i : Int) < rules.length := by omega
      obtain ⟨ad, rfl, c0, c1⟩ := (HRR.out.below HB.out).at_ hlt
      have hsn : lastG (rules.take (i + 1)) s = if matchG rules[i].pat s then rules[i].ign else b := by rw [List.take_succ_eq_append_getElem hlt, lastG_snoc, HLG.out]
      have HCI := Lib.hid (fun W (h : Below wr.heap.size wr W) => (h.cell (World.block_lt_of_cell? _ _ c0)).trans c0)
      have hM := fun W => HM.out rules[i].pat W
      generalize rules[i].pat = q at *
      generalize rules[i].ign = g at *
      cases hb : matchG q s with
      | true =>
        rw [hb] at hM hsn
        rw [if_pos rfl] at hsn
        have HM2 := Lib.hid hM
        have HS2 := Lib.hid hsn
        clear hM hsn hb c0
        go_wp2_with (fail)
        refine (HM2.out _).mono ?_
        rintro e w2 ⟨rfl, hw2⟩
        have c2 := HCI.out w2 hw2
        have HB2 := Lib.hid (HB.out.trans (hw2.mono HB.out.size))
        clear hw2 c1
        go_wp2_with (fail)
        go_roundw
        case rel => exact ⟨i + 1, g, by omega, rfl, by go_num, HS2, HB2⟩
        case measure => simp [intOf]; omega
      | false =>
        rw [hb] at hM hsn
        rw [if_neg (by decide)] at hsn
        have HM2 := Lib.hid hM
        have HS2 := Lib.hid hsn
        clear hM hsn hb c0 HCI
        go_wp2_with (fail)
        refine (HM2.out _).mono ?_
        rintro e w2 ⟨rfl, hw2⟩
        have HB2 := Lib.hid (HB.out.trans (hw2.mono HB.out.size))
        clear hw2 c1
        go_wp2_with (fail)
        go_roundw
        case rel => exact ⟨i + 1, b, by omega, rfl, by go_num, HS2, HB2⟩
        case measure => simp [intOf]; omega
    · have HE := Lib.hid (show b = res by
        have h := HLG.out
        rw [List.take_of_length_le (by omega)] at h
        rw [← h]; exact HRES.out)
      have i1 : decide ((i : Int) < (rules.length : Int)) = false := by rw [decide_eq_false_iff_not]; omega
      go_wp2_with (fail)
      go_ret
      exact ⟨by rw [HE.out]; rfl, HB.out⟩

set_option maxHeartbeats 1000000 in
theorem Ignored_ref (rules : List Rule) (A : Option Addr) (c : Nat) (s : List UInt8) (w : World) (hR : RulesAt w A rules) (hlen : rules.length ≤ 4294967296) (hs : s.length ≤ 8796093022200) :
    Calls Tryd.prog 17 #[.slice A rules.length c, .string ⟨s.toArray⟩] w (Ret w (.bool (ignG rules s))) := by
  have hP := Path_ref s w hs
  cases hok : pathOK s with
  | false =>
    rw [hok] at hP
    have HP := Lib.hid hP
    have HI := Lib.hid (show ignG rules s = false by unfold ignG; rw [hok]; rfl)
    clear hP hok hR hlen hs
    go_enter Tryd.func17, Tryd.ntmps17
    go_wp2_with (fail)
    refine HP.out.mono ?_
    rintro e w1 ⟨rfl, hw1⟩
    go_wp2_with (fail)
    go_ret
    exact ⟨by rw [HI.out]; rfl, hw1⟩
  | true =>
    rw [hok] at hP
    have HP := Lib.hid hP
    have HLA := Lib.hid (fun q W (h : Below w.heap.size w W) (hq : q.length ≤ s.length) => last_ref rules A c q W (hR.below h) hlen (by omega))
    have HPA := Lib.hid (fun q W (hq : q.length ≤ s.length) => Parent_ref q W (by omega))
    have HNE := Lib.hid (pathOK_ne hok)
    have HOK := Lib.hid hok
    clear hP hok hR hlen hs
    go_enter Tryd.func17, Tryd.ntmps17
    go_wp2_with (fail)
    refine HP.out.mono ?_
    rintro e w1 ⟨rfl, hw1⟩
    have HB1 := Lib.hid hw1
    clear hw1
    go_wp2_with (fail)
    go_loopw [5] (fun t5 W => ∃ q : List UInt8, t5 = .string ⟨q.toArray⟩ ∧ q.length ≤ s.length ∧ Hid ((q = [] → ignG rules s = false) ∧ (q ≠ [] → pathOK q = true ∧ ignG rules s = ignG rules q)) ∧ Hid (Below w.heap.size w W)) (fun t5 _ => strLenG t5)
    case atStart => exact ⟨s, rfl, Nat.le_refl _, Lib.hid ⟨fun e => absurd e HNE.out, fun _ => ⟨HOK.out, rfl⟩⟩, HB1⟩
    case round =>
      clear HB1 HNE HOK
      obtain ⟨q, rfl, hql, HQ, HB⟩ := hrel
      by_cases hq0 : q = []
      · have HI := Lib.hid (HQ.out.1 hq0)
        subst hq0
        go_wp2_with (fail)
        go_ret
        exact ⟨by rw [HI.out]; rfl, HB.out⟩
      · obtain ⟨hqok, hqi⟩ := HQ.out.2 hq0
        have hne : q.isEmpty = false := by cases q; exact absurd rfl hq0; rfl
        have hst := ignG_step rules hqok
        have hLQ := HLA.out q wr HB.out hql
        cases hlg : lastG rules q with
        | true =>
          rw [hlg] at hLQ hst
          have HLQ := Lib.hid hLQ
          have HI := Lib.hid (show ignG rules s = true by rw [hqi, hst]; rfl)
          clear hLQ hst hqi hqok hq0 hlg
          go_wp2_with (fail)
          refine HLQ.out.mono ?_
          rintro e w2 ⟨rfl, hw2⟩
          go_wp2_with (fail)
          go_ret
          exact ⟨by rw [HI.out]; rfl, HB.out.trans (hw2.mono HB.out.size)⟩
        | false =>
          rw [hlg, Bool.false_or] at hst
          rw [hlg] at hLQ
          have HLQ := Lib.hid hLQ
          have hpl : (parentM q).length < q.length := by
            by_cases e : parentM q = []
            · rw [e]; exact List.length_pos_iff.2 hq0
            · exact parent_shorter hqok e
          have HN := Lib.hid (show (parentM q = [] → ignG rules s = false) ∧ (parentM q ≠ [] → pathOK (parentM q) = true ∧ ignG rules s = ignG rules (parentM q)) from
            ⟨fun e => by rw [hqi, hst, if_pos e], fun e => ⟨parent_ok hqok e, by rw [hqi, hst, if_neg e]⟩⟩)
          have HPQ := Lib.hid (fun W => HPA.out q W hql)
          clear hLQ hst hqi hqok hq0 hlg
          generalize parentM q = pq at *
          go_wp2_with (fail)
          refine HLQ.out.mono ?_
          rintro e w2 ⟨rfl, hw2⟩
          have hB2 := HB.out.trans (hw2.mono HB.out.size)
          clear hw2
          go_wp2_with (fail)
          refine (HPQ.out _).mono ?_
          rintro e w3 ⟨rfl, hw3⟩
          have HB3 := Lib.hid (hB2.trans (hw3.mono hB2.size))
          clear hw3 hB2
          go_wp2_with (fail)
          go_roundw
          case rel => exact ⟨pq, rfl, by omega, HN, HB3⟩
          case measure => simp [strLenG, ByteArray.size]; exact hpl
end Go.Proofs.YtgppfcaghjbjmaaDoor
end

/- hawserref02.Rules. -/
section
set_option linter.unusedVariables false
namespace Go.Proofs.YtgppfcaghjbjmaaDoor
open Go.RowKit Plain

namespace Plain
/-- the first rule that is no pattern: its place and what is wrong -/
def rulesF : Nat → List Rule → Nat × Nat
  | _, [] => (0, 0)
  | k, r :: l => if (checkP 400 r.pat).2 = 0 then rulesF (k + 1) l else (k, (checkP 400 r.pat).2)
def rulesP (l : List Rule) : Nat × Nat := if 100 < l.length then (0, 2) else rulesF 0 l
theorem rulesF_at {l : List Rule} {i : Nat} (h : i < l.length) : rulesF i (l.drop i) = if (checkP 400 l[i].pat).2 = 0 then rulesF (i + 1) (l.drop (i + 1)) else (i, (checkP 400 l[i].pat).2) := by
  rw [List.drop_eq_getElem_cons h]; rfl
theorem rulesF_end (l : List Rule) : rulesF l.length (l.drop l.length) = (0, 0) := by rw [List.drop_length]; rfl
end Plain

set_option maxHeartbeats 1000000 in
theorem Rules_ref (rules : List Rule) (A : Option Addr) (c : Nat) (w : World) (hR : RulesAt w A rules) (hlen : rules.length ≤ 4294967296) :
    Calls Tryd.prog 16 #[.slice A rules.length c] w (Ret w (.tuple #[.int .i64 (rulesP rules).1, .int .i64 (rulesP rules).2])) := by
  by_cases h100 : 100 < rules.length
  · have h1 : decide ((100 : Int) < (rules.length : Int)) = true := by rw [decide_eq_true_eq]; omega
    rw [show rulesP rules = (0, 2) by unfold rulesP; rw [if_pos h100]]
    clear hR
    go_enter Tryd.func16, Tryd.ntmps16
    go_wp2_with (fail)
    go_ret2
    exact ⟨rfl, Below.refl _ _⟩
  · have h1 : decide ((100 : Int) < (rules.length : Int)) = false := by rw [decide_eq_false_iff_not]; omega
    obtain ⟨res, hres⟩ : ∃ r, rulesP rules = r := ⟨_, rfl⟩
    have HRES := Lib.hid (show rulesF 0 (rules.drop 0) = res by rw [← hres]; unfold rulesP; rw [if_neg h100]; rfl)
    have HC := Lib.hid (fun q W => Check_ref q W)
    have HRR := Lib.hid hR
    rw [hres]
    clear hR hres
    go_enter Tryd.func16, Tryd.ntmps16
    go_wp2_with (fail)
    go_loopw [4] (fun t4 W => ∃ i : Nat, i ≤ rules.length ∧ t4 = .int .i64 i ∧ Hid (rulesF i (rules.drop i) = res) ∧ Hid (Below w.heap.size w W)) (fun t4 _ => rules.length - (intOf t4).toNat)
    case atStart => exact ⟨0, by omega, rfl, HRES, Lib.hid (Below.refl _ _)⟩
    case round =>
      obtain ⟨i, hi, rfl, HE, HB⟩ := hrel
      have i0 : (0 : Int) ≤ i := by omega
      have e1 : IntKind.i64.wrap ((i : Int) + 1) = (i : Int) + 1 := IntWalk.i64_in _ (by omega)
      by_cases hlt : i < rules.length
      · have i1 : (i : Int) < rules.length := by omega
        obtain ⟨ad, rfl, c0, c1⟩ := (HRR.out.below HB.out).at_ hlt
        have hC := fun W => HC.out rules[i].pat W
        have hat := rulesF_at hlt
        rw [HE.out] at hat
        generalize rules[i].pat = q at *
        generalize (checkP 400 q).1 = k at *
        by_cases he : (checkP 400 q).2 = 0
        · rw [he] at hC
          rw [if_pos he] at hat
          have HC2 := Lib.hid hC
          have HE2 := Lib.hid hat.symm
          clear hC hat he c0
          go_wp2_with (fail)
          refine (HC2.out _).mono ?_
          rintro e w2 ⟨rfl, hw2⟩
          have HB2 := Lib.hid (HB.out.trans (hw2.mono HB.out.size))
          clear hw2 c1
          go_wp2_with (fail)
          go_roundw
          case rel => exact ⟨i + 1, by omega, by go_num, HE2, HB2⟩
          case measure => simp [intOf]; omega
        · rw [if_neg he] at hat
          have heb : (((checkP 400 q).2 : Int) != 0) = true := by rw [bne_iff_ne]; omega
          generalize (checkP 400 q).2 = x at *
          have HC2 := Lib.hid hC
          have HE2 := Lib.hid hat
          clear hC hat he c0
          go_wp2_with (fail)
          refine (HC2.out _).mono ?_
          rintro e w2 ⟨rfl, hw2⟩
          have HB2 := Lib.hid (HB.out.trans (hw2.mono HB.out.size))
          clear hw2 c1
          go_wp2_with (fail)
          go_ret2
          exact ⟨by rw [HE2.out]; rfl, HB2.out⟩
      · obtain rfl : i = rules.length := by omega
        have HE2 := Lib.hid (show res = (0, 0) by rw [← HE.out]; exact rulesF_end _)
        go_wp2_with (fail)
        go_ret2
        exact ⟨by rw [HE2.out]; rfl, HB.out⟩
end Go.Proofs.YtgppfcaghjbjmaaDoor
end

/- glob.Rules. -/
section
set_option linter.unusedVariables false
namespace Go.Proofs.YtgppfcaghjbjmaaDoor
open Go.RowKit Plain

set_option maxHeartbeats 1000000 in
theorem Rules_any (rules : List Rule) (A : Option Addr) (c : Nat) (m : Int) (w : World) (hL : Laid w m) (hR : RulesAt w A rules) (hlen : rules.length ≤ 4294967296) :
    Calls Tryd.prog 15 #[.slice A rules.length c] w (Ret w (.tuple #[.int .i64 (rulesP rules).1, .int .i64 (rulesP rules).2])) := by
  by_cases h100 : 100 < rules.length
  · have h1 : decide ((100 : Int) < (rules.length : Int)) = true := by rw [decide_eq_true_eq]; omega
    rw [show rulesP rules = (0, 2) by unfold rulesP; rw [if_pos h100]]
    clear hR
    go_enter Tryd.func15, Tryd.ntmps15
    go_wp2_with (fail)
    go_ret2
    exact ⟨rfl, Below.refl _ _⟩
  · have h1 : decide ((100 : Int) < (rules.length : Int)) = false := by rw [decide_eq_false_iff_not]; omega
    obtain ⟨res, hres⟩ : ∃ r, rulesP rules = r := ⟨_, rfl⟩
    have HRES := Lib.hid (show rulesF 0 (rules.drop 0) = res by rw [← hres]; unfold rulesP; rw [if_neg h100]; rfl)
    have HC := Lib.hid (fun q W (h : Below w.heap.size w W) => Check_all q W (hL.below h).tabs)
    have HRR := Lib.hid hR
    rw [hres]
    clear hR hres hL
    go_enter Tryd.func15, Tryd.ntmps15
    go_wp2_with (fail)
    go_loopw [13] (fun t13 W => ∃ i : Nat, i ≤ rules.length ∧ t13 = .int .i64 i ∧ Hid (rulesF i (rules.drop i) = res) ∧ Hid (Below w.heap.size w W)) (fun t13 _ => rules.length - (intOf t13).toNat)
    case atStart => exact ⟨0, by omega, rfl, HRES, Lib.hid (Below.refl _ _)⟩
    case round =>
      obtain ⟨i, hi, rfl, HE, HB⟩ := hrel
      have i0 : (0 : Int) ≤ i := by omega
      have e1 : IntKind.i64.wrap ((i : Int) + 1) = (i : Int) + 1 := IntWalk.i64_in _ (by omega)
      by_cases hlt : i < rules.length
      · have i1 : (i : Int) < rules.length := by omega
        obtain ⟨ad, rfl, c0, c1⟩ := (HRR.out.below HB.out).at_ hlt
        have hB1 := HB.out.alloc HB.out.size (Obj.cells #[Value.bool rules[i].ign, Value.string ⟨rules[i].pat.toArray⟩] 30)
        have hC := HC.out rules[i].pat _ hB1
        have HB1 := Lib.hid hB1
        have hat := rulesF_at hlt
        rw [HE.out] at hat
        clear hB1
        generalize rules[i] = ru at *
        generalize (checkP 400 ru.pat).1 = k at *
        by_cases he : (checkP 400 ru.pat).2 = 0
        · rw [he] at hC
          rw [if_pos he] at hat
          have HC2 := Lib.hid hC
          have HE2 := Lib.hid hat.symm
          clear hC hat he
          go_wp2_with (fail)
          refine HC2.out.mono ?_
          rintro e w2 ⟨rfl, hw2⟩
          have HB2 := Lib.hid (HB1.out.trans (hw2.mono HB1.out.size))
          clear hw2 c0 c1
          go_wp2_with (fail)
          go_roundw
          case rel => exact ⟨i + 1, by omega, by go_num, HE2, HB2⟩
          case measure => simp [intOf]; omega
        · rw [if_neg he] at hat
          have heb : (((checkP 400 ru.pat).2 : Int) != 0) = true := by rw [bne_iff_ne]; omega
          generalize (checkP 400 ru.pat).2 = x at *
          have HC2 := Lib.hid hC
          have HE2 := Lib.hid hat
          clear hC hat he
          go_wp2_with (fail)
          refine HC2.out.mono ?_
          rintro e w2 ⟨rfl, hw2⟩
          have HB2 := Lib.hid (HB1.out.trans (hw2.mono HB1.out.size))
          clear hw2 c0 c1
          go_wp2_with (fail)
          go_ret2
          exact ⟨by rw [HE2.out]; rfl, HB2.out⟩
      · obtain rfl : i = rules.length := by omega
        have HE2 := Lib.hid (show res = (0, 0) by rw [← HE.out]; exact rulesF_end _)
        go_wp2_with (fail)
        go_ret2
        exact ⟨by rw [HE2.out]; rfl, HB.out⟩
end Go.Proofs.YtgppfcaghjbjmaaDoor
end

/- A library's variable holds some int. -/
section
namespace Go.Proofs.YtgppfcaghjbjmaaDoor
open Go.RowKit
theorem cell_maxLen {W : World} (hS : W.ShapedOpen Tryd.prog) : ∃ m, W.cell? ⟨0, 0, none⟩ = some (.int .i64 m) :=
  cell_of_shapedOpen_int (zero := #[.int .i64 0]) (t := 3) hS (of_decide_eq_true (by kernel_rfl)) (by kernel_rfl) rfl (by kernel_rfl) (by kernel_rfl) Tryd.underlying3
end Go.Proofs.YtgppfcaghjbjmaaDoor
end

/- The listed tables, as a call may lean on them. -/
section
namespace Go.Proofs.YtgppfcaghjbjmaaDoor
open Go.RowKit

theorem extra196 : Go.Proofs.U8Extra Tryd.prog lays196_ren := {
  n3 := by kernel_rfl
  n4 := by kernel_rfl
  y3 := by kernel_rfl
  y4 := by kernel_rfl
  c5 := by kernel_rfl
  c119 := by kernel_rfl
  c138 := by kernel_rfl }
theorem first_same : Lib.firstData = Rows.laid_unicode_utf8_first := by kernel_rfl
theorem accept_same : Lib.acceptData = Rows.laid_unicode_utf8_acceptRanges := by kernel_rfl
theorem tabs_of_laid {W : World} (h : laidMetH Tryd.prog [("unicode/utf8.acceptRanges", Rows.laid_unicode_utf8_acceptRanges), ("unicode/utf8.first", Rows.laid_unicode_utf8_first)] W) : Tabs W := by
  rw [MakeChecks.laidMetH_plain _ _ _ (by kernel_rfl)] at h
  obtain ⟨ps, hps, _⟩ := h
  exact Go.Proofs.utf8Tabs_of_readsT (Go.Proofs.U8Types.of196 lays196) extra196 (by rw [first_same]; exact Lib.LaidVars_reads hps _ _ (by simp)) (by rw [accept_same]; exact Lib.LaidVars_reads hps _ _ (by simp))
theorem laid_of {W : World} (hL : laidMetH Tryd.prog [("unicode/utf8.acceptRanges", Rows.laid_unicode_utf8_acceptRanges), ("unicode/utf8.first", Rows.laid_unicode_utf8_first)] W) (hS : W.ShapedOpen Tryd.prog) : ∃ m, Laid W m := by
  obtain ⟨m, hm⟩ := cell_maxLen hS
  exact ⟨m, tabs_of_laid hL, hm⟩
end Go.Proofs.YtgppfcaghjbjmaaDoor
end

/- A cell that reads at a string's type. -/
section
namespace Go.Proofs.YtgppfcaghjbjmaaDoor

section
variable {H : Type} {enc : TypeId × Value → H} {P : Program} {w : World} {base : Nat} {spare : Nat → Bool} {held : Bool} {t : TypeId}
/-- A cell that reads at a string's type. -/
theorem trod_str {fuel : Nat} {c : Value} {y : DataW H × List MemPlace} (ht : P.underlying t = some .string) (h : DataW.trod enc P w base spare held fuel t [c] = some y) :
    ∃ s : List UInt8, c = .string ⟨s.toArray⟩ ∧ y = (.lit (.string s), []) ∧ s.length ≤ maxLen := by
  obtain ⟨b, hb, rfl, hl⟩ := DataW.trod_string ht h
  simp only [List.cons.injEq, and_true] at hb
  subst hb
  exact ⟨b.data.toList, by cases b; simp, rfl, by simpa only [ByteArray.size, Array.length_toList] using hl⟩
end
end Go.Proofs.YtgppfcaghjbjmaaDoor
end

/- The frame of a card: a world that holds the listed tables; no parameter wants a stand-in. -/
section
namespace Go.Proofs.YtgppfcaghjbjmaaDoor
open Go.ChangeShapes Go.WideShapes Go.ChangeAt Go.RowKit

/-- A table's cells, off its datum. -/
def lits0 : DataW Unit → List Value
  | .lit (.int k n) => [.int k n]
  | _ => []
def lits1 : DataW Unit → List Value
  | .agg ps => ps.flatMap lits0
  | d => lits0 d
def lits2 : DataW Unit → List Value
  | .agg ps => ps.flatMap lits1
  | d => lits1 d
def layAt (h : Array Obj) (g : Nat) (d : DataW Unit) : Array Obj := h.modify g fun
  | .cells _ t frozen => .cells (lits2 d).toArray t frozen
  | o => o
/-- The settled world, the tables laid. -/
noncomputable def laidWorld (os : Os) : World :=
  { World.holding Tryd.prog os ⟨#[], #[], []⟩ with heap := layAt (layAt (World.holding Tryd.prog os ⟨#[], #[], []⟩).heap 2 Rows.laid_unicode_utf8_acceptRanges) 1 Rows.laid_unicode_utf8_first }

theorem card_plain {name : String} {f0 : FuncId} {fn0 : Func} (hf0 : Tryd.pinned.checked.prog.funcNamed name = some f0) (hfn0 : Tryd.pinned.checked.prog.funcs[f0]? = some fn0) (hl : Tryd.pinned.checked.prog.looks [] = false)
    (ha : (fn0.params.toList.all fun t => !Tryd.pinned.checked.prog.wantsStandIn t) = true) (f : FuncId) (fn : Func) (hf : Tryd.pinned.checked.prog.funcNamed name = some f) (hfn : Tryd.pinned.checked.prog.funcs[f]? = some fn) :
    false = Tryd.pinned.checked.prog.looks [] ∧ ∀ (j : Nat) t, fn.params[j]? = some t → Tryd.pinned.checked.prog.wantsStandIn t = false := by
  obtain rfl : f0 = f := Option.some.inj (hf0.symm.trans hf)
  obtain rfl : fn0 = fn := Option.some.inj (hfn0.symm.trans hfn)
  refine ⟨hl.symm, fun j t ht => ?_⟩
  have hm : t ∈ fn0.params.toList := by
    rw [← Array.getElem?_toList] at ht
    exact List.mem_of_getElem? ht
  have := List.all_eq_true.1 ha t hm
  simpa using this

end Go.Proofs.YtgppfcaghjbjmaaDoor
end

/- Opening of arguments: rules. -/
section
namespace Go.Proofs.YtgppfcaghjbjmaaDoor
open Go.ChangeShapes Go.WideShapes Go.ChangeAt Go.RowKit Go.Deep Plain

section
variable {H : Type} {enc : TypeId × Value → H} {w : World} {base : Nat} {held : Bool}
set_option maxRecDepth 100000 in
theorem open_rules {r : Reach} {b0 : Nat} {v : Value} {d : DataW H} {ps : List MemPlace} (hval : Value.okWide Tryd.prog w r b0 28 v) (hd : DataW.Trod enc Tryd.prog w base (fun _ => true) held 28 v d ps) :
    ∃ A c, ∃ l : List Rule, v = .slice A l.length c ∧ l.length ≤ c ∧ c ≤ maxLen ∧ RulesAt w A l ∧ (∀ o ∈ l, o.pat.length ≤ 9223372036854775807) ∧ (l.map fun o => o.pat.length + 1).sum ≤ Rows.uptoBulk d := by
  obtain ⟨A, c, l, V, h1, h2, h3, h4, h5, h6, h7⟩ := open_rows (α := Rule) (fun vs x => vs = ruleV x ∧ x.pat.length ≤ 9223372036854775807) (fun x => x.pat.length + 1) Tryd.underlying28 Tryd.underlying30 (by kernel_rfl) (by kernel_rfl) (fun vs ys n hv hy hf => by
    obtain ⟨v0, y0, a0, c0, t0⟩ := hf 0 _ rfl
    obtain ⟨v1, y1, a1, c1, t1⟩ := hf 1 _ rfl
    obtain ⟨m0, e0, f0⟩ := DataW.trod_bool Tryd.underlying4 t0
    obtain ⟨m1, e1, f1, l1⟩ := trod_str Tryd.underlying9 t1
    simp only [List.cons.injEq, and_true] at e0
    subst e0 e1 f1
    refine ⟨⟨m1, m0⟩, ⟨?_, by unfold maxLen at l1; exact l1⟩, ?_⟩
    · match vs, hv with
      | [b0, b1], _ =>
        simp at a0 a1
        rw [a0, a1]; rfl
    · match ys, hy with
      | [z0, z1], _ =>
        simp at c1
        subst c1
        simp only [List.map_cons, List.map_nil, Rows.uptoBulk, Rows.uptoBulkAll]
        omega) hval hd
  have hV : V = l.map ruleV := List.ext_getElem (by rw [h4, List.length_map]) (fun k h h' => by rw [(h6 k (by simpa using h') h).1]; simp)
  subst hV
  refine ⟨A, c, l, h1, h2, h3, h5, fun o ho => ?_, h7⟩
  obtain ⟨k, hk, rfl⟩ := List.getElem_of_mem ho
  exact (h6 k hk (by simpa using hk)).2
end
theorem rules_sum (l : List Rule) : ∀ o ∈ l, o.pat.length + 1 ≤ (l.map fun o => o.pat.length + 1).sum := by
  induction l with
  | nil => intro o ho; cases ho
  | cons x l ih =>
    intro o ho
    simp only [List.map_cons, List.sum_cons]
    rcases List.mem_cons.1 ho with rfl | ho
    · omega
    · have := ih o ho; omega
end Go.Proofs.YtgppfcaghjbjmaaDoor
end

section
set_option linter.unusedVariables false
namespace Go.Proofs.YtgppfcaghjbjmaaDoor
open Go.RowKit Plain

set_option maxHeartbeats 1500000 in
set_option maxRecDepth 100000 in
theorem GlobRules_any (rules : List Rule) (A : Option Addr) (c : Nat) (s : List UInt8) (m : Int) (w : World) (hL : Laid w m) (hR : RulesAt w A rules) (hlc : rules.length ≤ c) (hlen : rules.length ≤ 1048576) (hs : s.length ≤ 8796093022200) :
    Calls Tryd.prog 7 #[.slice A rules.length c, .string ⟨s.toArray⟩] w (Ret w (.bool true)) := by
  obtain ⟨i0, hi, hz0, hz1, hz2⟩ := info_parts info_rule
  have hagg : (Tryd.prog.info? 30).map (·.size) = some 2 := by kernel_rfl
  have HI := Lib.hid hi
  clear hi
  have HR := Lib.hid (fun W (h : Below w.heap.size w W) => hR.below h)
  have HAW := Lib.hid (awake_any m w hL)
  have HRU := Lib.hid (fun (l : List Rule) (B : Option Addr) (d : Nat) W (h : Below w.heap.size w W) (hr : RulesAt W B l) (hl : l.length ≤ 4294967296) => Rules_any l B d m W (hL.below h) hr hl)
  have HRF := Lib.hid (fun (l : List Rule) (B : Option Addr) (d : Nat) W (hr : RulesAt W B l) (hl : l.length ≤ 4294967296) => Rules_ref l B d W hr hl)
  have HIG := Lib.hid (fun (l : List Rule) (B : Option Addr) (d : Nat) W (h : Below w.heap.size w W) (hr : RulesAt W B l) (hl : l.length ≤ 4294967296) => Ignored_any l B d s m W (hL.below h) hr hl (by omega))
  have HIR := Lib.hid (fun (l : List Rule) (B : Option Addr) (d : Nat) W (hr : RulesAt W B l) (hl : l.length ≤ 4294967296) => Ignored_ref l B d s W hr hl hs)
  clear hL hR
  go_enter Tryd.func7, Tryd.ntmps7
  go_wp2_with (fail)
  refine HAW.out.mono ?_
  rintro e w2 ⟨rfl, hB2⟩
  have HB2 := Lib.hid hB2
  have HRD2 := Lib.hid (RulesAt.reads ((HR.out w2 HB2.out).below (below_alloc1 w2 (.cells #[] 30))))
  clear hB2
  go_wp2_with (at_builtin; refine wpList_append_slice rfl _ _ 28 rfl w2.heap.size 30 i0 _ 2 24 Tryd.underlying28 HI.out hz0 hz1 hz2 rfl (by decide) (some ⟨w2.heap.size, 0, none⟩) 0 0 [] rfl (empty_own1 w2 30 2) A rules.length c (rowsE ruleV rules) rfl HRD2.out (rowsE_oneCell ruleV_oneCell rules) ?c3 ?c4 ?c5 ?_)
  case c3 => unfold maxLen; omega
  case c4 => omega
  case c5 => simp
  intro A5 c5 w5 hown5 hg5
  have hb5 : Below w2.heap.size w2 w5 := ((Below.refl _ _).alloc (Nat.le_refl _) _).grown hg5 (by simp) (fun k hk => by
    have hk' : w2.heap.size = k := by injection hk
    omega)
  have HB5 := Lib.hid (HB2.out.trans (hb5.mono HB2.out.size))
  try simp only [Nat.zero_add, List.nil_append] at hown5
  have HA5 := Lib.hid (RulesAt.of_own hown5 rfl)
  have HRI := Lib.hid (HRU.out rules A5 c5 w5 HB5.out HA5.out (by omega))
  clear hown5 hg5 hb5 HRD2
  obtain ⟨r1, r2, hr⟩ : ∃ r1 r2, rulesP rules = (r1, r2) := ⟨_, _, rfl⟩
  rw [hr] at HRI
  simp only at HRI
  go_wp2_with (fail)
  refine HRI.out.mono ?_
  rintro e w6 ⟨rfl, hw6⟩
  have HB6 := Lib.hid (HB5.out.trans (hw6.mono HB5.out.size))
  have HA6 := Lib.hid (HA5.out.below hw6)
  have hRJ := HRF.out rules A c w6 (HR.out w6 HB6.out) (by omega)
  rw [hr] at hRJ
  have HRJ := Lib.hid hRJ
  clear hw6 HA5 HRI hRJ hr
  have q1 : ((r1 : Int) != r1) = false := by simp
  have q2 : ((r2 : Int) != r2) = false := by simp
  go_wp2_with (fail)
  refine HRJ.out.mono ?_
  rintro e w7 ⟨rfl, hw7⟩
  have HB7 := Lib.hid (HB6.out.trans (hw7.mono HB6.out.size))
  have HA7 := Lib.hid (HA6.out.below hw7)
  clear hw7 HA6 HRJ
  by_cases h8 : 8 < rules.length
  · have h8' : decide ((8 : Int) < (rules.length : Int)) = true := by rw [decide_eq_true_eq]; omega
    go_wp2_with (fail)
    go_ret
    exact ⟨rfl, HB7.out⟩
  have h8' : decide ((8 : Int) < (rules.length : Int)) = false := by rw [decide_eq_false_iff_not]; omega
  go_wp2_with (fail)
  go_loopw [39] (fun t39 W => ∃ i : Nat, i ≤ rules.length ∧ t39 = .int .i64 i ∧ Hid (Below w.heap.size w W) ∧ Hid (RulesAt W A5 rules)) (fun t39 _ => rules.length - (intOf t39).toNat)
  case atStart => exact ⟨0, by omega, rfl, HB7, HA7⟩
  case round =>
    clear HB7 HA7
    obtain ⟨i, hi, rfl, HB7, HA7⟩ := hrel
    have i0' : (0 : Int) ≤ i := by omega
    have e1 : IntKind.i64.wrap ((i : Int) + 1) = (i : Int) + 1 := IntWalk.i64_in _ (by omega)
    by_cases hlt : i < rules.length
    · have i1 : (i : Int) < rules.length := by omega
      obtain ⟨ad, rfl, r0, r1⟩ := (HR.out _ HB7.out).at_ hlt
      obtain ⟨ad5, rfl, s0, s1⟩ := HA7.out.at_ hlt
      generalize rules[i] = ru at *
      by_cases hp4 : 40 < ru.pat.length
      · have hp4' : decide ((40 : Int) < (ru.pat.length : Int)) = true := by rw [decide_eq_true_eq]; omega
        go_wp2_with (fail)
        go_quiet (fail)
        go_wp2_with (fail)
        go_quiet (fail)
        go_wp2_with (fail)
        go_ret
        exact ⟨by simp, below_drewN (below_drewN HB7.out _) _⟩
      · have hp4' : decide ((40 : Int) < (ru.pat.length : Int)) = false := by rw [decide_eq_false_iff_not]; omega
        go_wp2_with (fail)
        go_quiet (fail)
        go_wp2_with (fail)
        go_roundw
        case rel => exact ⟨i + 1, by omega, by go_num, Lib.hid (below_drewN HB7.out _), HA7⟩
        case measure => simp [intOf]; omega
    · have i1 : ¬ (i : Int) < rules.length := by omega
      have hq1 := HIG.out rules A5 c5 wr HB7.out HA7.out (by omega)
      have HQ1 := Lib.hid hq1
      have HQ2 := Lib.hid (fun W => HIR.out rules A c W)
      generalize ignG rules s = res at *
      clear hq1
      go_wp2_with (fail)
      refine HQ1.out.mono ?_
      rintro e w8 ⟨rfl, hw8⟩
      have HB8 := Lib.hid (HB7.out.trans (hw8.mono HB7.out.size))
      have HQ3 := Lib.hid (HQ2.out w8 (HR.out _ HB8.out) (by omega))
      clear hw8 HQ1 HQ2
      go_wp2_with (fail)
      refine HQ3.out.mono ?_
      rintro e w9 ⟨rfl, hw9⟩
      go_wp2_with (fail)
      go_ret
      exact ⟨by simp, HB8.out.trans (hw9.mono HB8.out.size)⟩

open Go.ChangeShapes Go.WideShapes Go.ChangeAt in
/-- What the walk gives, for every argument. -/
theorem GlobRules_contract (H : Type) (enc : TypeId × Value → H) (W : World) (base : Nat) (args : Array Value) (ds gs : List (DataW H)) (before : List MemPlace)
    (hval : ∀ (j : Nat) t v, Tryd.f7.params[j]? = some t → args[j]? = some v → Value.okWide Tryd.prog W .any base t v)
    (hW : DataW.Whole enc Tryd.prog Tryd.f7.params.toList Rows.globRulesSpec.vars false W args.toList ds gs before) (hL : laidMetH Tryd.prog Rows.globRulesRow.laid W) (hS : W.ShapedOpen Tryd.prog) (hk : Rows.uptoSmall H (ds ++ gs) = true) :
    Calls Tryd.prog 7 args W fun e W' => ∃ v, e = .returned v ∧ Rows.globRulesSpec.post enc Tryd.prog Tryd.f7 false true false false W args v W' := by
  have hW' := hW
  obtain ⟨p, q, hA0, hV, rfl, hfz, hnd⟩ := hW
  have hA : DataW.TrodAll enc Tryd.prog W 0 (fun _ => true) true Tryd.f7.params.toList args.toList ds p := hA0
  rw [Tryd.params7] at hA hval
  obtain ⟨v0, vs0, d0, ds0, p0, q0, hargs, rfl, rfl, h0, r0⟩ := trodAll_cons hA
  obtain ⟨v1, vs1, d1, ds1, p1, q1, rfl, rfl, rfl, h1, r1⟩ := trodAll_cons r0
  obtain ⟨rfl, rfl, rfl⟩ := trodAll_nil r1
  obtain rfl : args = #[v0, v1] := by cases args; simp_all
  obtain ⟨rfl, rfl⟩ := trodVars_none hV
  obtain ⟨A0, c0, x0, rfl, hc0, hm0, ks0, kd0, kw0⟩ := open_rules (hval 0 28 v0 rfl rfl) h0
  obtain ⟨x1, rfl, rfl, rfl, k1⟩ := ChangeMaps.open_string Tryd.underlying9 (hval 1 9 v1 rfl rfl) h1
  have k1 : x1.data.toList.length ≤ 9223372036854775807 := by unfold maxLen at k1; simpa using k1
  clear hA0
  have hbulk := bulk_bound hk
  simp only [List.cons_append, List.nil_append, List.append_nil, Rows.uptoBulkAll] at hbulk
  obtain ⟨m, hm⟩ := laid_of hL hS
  simp only [Rows.uptoBulk, Rows.uptoBulkAll] at hbulk
  have hsl := sum_ge x0 (fun o => o.pat.length + 1) (by simp)
  have hs1 : x1.data.toList.length ≤ 1048576 := by omega
  refine (GlobRules_any x0 A0 c0 x1.data.toList m W hm ks0 hc0 (by omega) (by omega)).mono ?_
  exact fun e W' ⟨he, hb⟩ => ⟨_, he, law_post rfl hW' rfl (by kernel_rfl) Tryd.underlying4 (by kernel_rfl) laidOut hb⟩

open Go.ChangeShapes Go.WideShapes Go.ChangeAt in
theorem GlobRules_met (os : Os) : laidMet Tryd.prog Rows.globRulesUptoRow.laid ((laidWorld os).forCall (fun _ _ => 0) ⟨#[], #[.slice none 0 0, .string ⟨#[]⟩], []⟩).memory :=
  laidMet_of_run' 8 (by kernel_rfl) (by kernel_rfl)
open Go.ChangeShapes Go.WideShapes Go.ChangeAt in
theorem GlobRules_reads (os : Os) {H : Type} (enc : TypeId × Value → H) : ∃ places, DataW.whole enc Tryd.prog ((laidWorld os).forCall (fun _ _ => 0) ⟨#[], #[.slice none 0 0, .string ⟨#[]⟩], []⟩).memory Tryd.f7.params.toList Rows.globRulesSpec.vars false #[.slice none 0 0, .string ⟨#[]⟩].toList 8 = some ([.nil, .lit (.string [])], [], places) :=
  ⟨[], by kernel_rfl⟩

open Go.ChangeShapes Go.WideShapes Go.ChangeAt in
set_option maxRecDepth 100000 in
theorem GlobRules_lifted (os : Os) (started : os.Started) (H : Type) (enc : TypeId × Value → H) (F : Stop.Interp) :
    ReturnsInHanded {} Tryd.checked os 7 .any ((Rows.OpenSpec.upto Rows.globRulesSpec).preRow enc Tryd.prog Tryd.f7 Rows.globRulesUptoRow.domain false Rows.globRulesUptoRow.laid) (((Rows.OpenSpec.upto Rows.globRulesSpec).at F).post enc Tryd.prog Tryd.f7 false true false false) := by
  obtain ⟨places, hx⟩ := GlobRules_reads os enc
  refine returnsInHanded_of_row (C := Tryd.checked) (s := Rows.OpenSpec.upto Rows.globRulesSpec) own started (by kernel_rfl) Tryd.func7
    (witness_row_at (enc := enc) (C := Tryd.checked) false (laidWorld os) #[.slice none 0 0, .string ⟨#[]⟩] rfl (by kernel_rfl) (by kernel_rfl) (by kernel_rfl)
      (OpenSpec.preRow_of_cond 8 hx (by kernel_rfl) (fun k hk => by cases hk; kernel_rfl) (by kernel_rfl) (GlobRules_met os))) ?_
  intro W base args ds gs before hval hW _ hcond _ hL hS _
  exact GlobRules_contract H enc W base args ds gs before hval hW hL hS (hcond _ rfl)

theorem GlobRules_said : Rows.GlobRulesUptoSaid :=
  OpenClaim.holds_of_cond 7 Tryd.f7 rfl rfl rfl rfl rfl rfl rfl ⟨rfl, rfl, rfl, rfl, rfl⟩ rfl rfl rfl rfl rfl (by kernel_rfl) Tryd.func7 (by kernel_rfl)
    (of_decide_eq_true (by kernel_rfl)) (by unfold Func.isWrapper; first | (rw [if_pos (by decide +kernel)]; kernel_rfl) | (rw [if_neg (by decide +kernel)]; exact ⟨rfl, rfl⟩))
    (fun os started H enc _ F => by rw [OpenClaim.pre_eq_preRow]; exact GlobRules_lifted os started H enc F)

theorem GlobRules_holds : Rows.GlobRulesUptoCardSaid :=
  Claim7.holds_tied_plain_at .later [] _ _ _ _ GlobRules_said (fun _ h => by cases h) (by kernel_rfl) (fun _ h => by cases h) globRulesUpto_row_tie rfl ⟨rfl, rfl⟩ (by kernel_rfl) rfl
    (card_plain (f0 := 7) (fn0 := Tryd.f7) (by kernel_rfl) Tryd.func7 (by kernel_rfl) (by kernel_rfl)) (by kernel_rfl)
end Go.Proofs.YtgppfcaghjbjmaaDoor
end
