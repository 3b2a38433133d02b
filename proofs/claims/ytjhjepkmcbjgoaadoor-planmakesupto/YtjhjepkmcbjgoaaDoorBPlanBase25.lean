/- Texts joined: GlobR8, PlanR1, LoadAt, PlanR2, PlanR3, PlanBase2. -/
import Derived.Test.YtjhjepkmcbjgoaaDoorBPlanBase24
import Derived.Test.YtjhjepkmcbjgoaaDoorBPlanBase18
import Derived.Test.YtjhjepkmcbjgoaaDoorBPlanBase21
import Derived.Test.YtjhjepkmcbjgoaaDoorBPlanBase19
import Derived.Deep.AppendLies
import Derived.OwnWalk
import Derived.Test.YtjhjepkmcbjgoaaDoorBPlanBase110
set_option linter.unusedSimpArgs false
set_option linter.unusedVariables false

/- hawserref02.Match. -/
section
set_option linter.unusedVariables false
namespace Go.Proofs.YtjhjepkmcbjgoaaDoor
open Go.RowKit Plain

set_option maxHeartbeats 1000000 in
set_option maxRecDepth 100000 in
theorem Match_ref (p s : List UInt8) (w : World) (hs : s.length ≤ 8796093022200) :
    Calls Tryd.prog 19 #[.string ⟨p.toArray⟩, .string ⟨s.toArray⟩] w (Ret w (.bool (matchG p s))) := by
  have hC := Check_ref p w
  have HPP := Lib.hid (fun W => Path_ref s W hs)
  cases hok : okG p with
  | false =>
    have HR := Lib.hid (matchG_off (s := s) (.inl hok))
    have he : (((checkP 400 p).2 : Int) != 0) = true := by
      unfold okG at hok
      rw [beq_eq_false_iff_ne] at hok
      rw [bne_iff_ne]; omega
    generalize (checkP 400 p).2 = e at *
    generalize (checkP 400 p).1 = k at *
    have HC := Lib.hid hC
    clear hC hok HPP
    go_enter Tryd.func19, Tryd.ntmps19
    go_wp2_with (fail)
    refine HC.out.mono ?_
    rintro e w1 ⟨rfl, hw1⟩
    go_wp2_with (fail)
    go_ret
    exact ⟨by rw [HR.out]; rfl, hw1⟩
  | true =>
    have hck := okG_ok hok
    have he : (checkP 400 p).2 = 0 := okG_iff.1 hok
    rw [he] at hC
    generalize (checkP 400 p).1 = k at *
    have HC := Lib.hid hC
    clear hC he
    cases hpa : pathOK s with
    | false =>
      have HR := Lib.hid (matchG_off (p := p) (.inr hpa))
      rw [hpa] at HPP
      clear hok hpa hck
      go_enter Tryd.func19, Tryd.ntmps19
      go_wp2_with (fail)
      refine HC.out.mono ?_
      rintro e w1 ⟨rfl, hw1⟩
      go_wp2_with (fail)
      refine (HPP.out _).mono ?_
      rintro e w2 ⟨rfl, hw2⟩
      go_wp2_with (fail)
      go_ret
      exact ⟨by rw [HR.out]; rfl, hw1.trans (hw2.mono hw1.size)⟩
    | true =>
      rw [hpa] at HPP
      obtain ⟨hne, h400, hv, hparts⟩ := hck
      have hs400 := pathOK_len hpa
      have hnames := fun x (hx : x ∈ parts s) => name_valid (pathOK_mem hpa hx)
      have hPA := fun W => Parts_ref p W (by omega)
      have hPB := fun W => Parts_ref s W hs
      have HPB := Lib.hid hPB
      have hsl : (parts s).length ≤ 65536 := by rw [parts_length]; have := List.count_le_length (a := (47 : UInt8)) (l := s); omega
      by_cases h47 : 47 ∈ p
      · have h2 : p ≠ [42, 42] := by rintro rfl; simp at h47
        have hpl2 : 2 ≤ (parts p).length := by
          rw [parts_length]
          have := List.count_pos_iff.2 h47
          omega
        have HR := Lib.hid (matchG_slash hok hpa h2 h47)
        have hpl1 : (parts p).length ≤ 65536 := by rw [parts_length]; have := List.count_le_length (a := (47 : UInt8)) (l := p); omega
        have HPA := Lib.hid (fun A c B d W hc hd h1 h2 => parts_ref _ (parts p) (parts s) A B c d W (Nat.le_refl _) (fun x hx => ⟨(hparts x hx).1, (hparts x hx).2, by have := part_len hx; omega⟩) (fun x hx => ⟨hnames x hx, by have := part_len hx; omega⟩) hpl1 hsl hc hd h1 h2)
        have HP := Lib.hid hPA
        rw [show partsP (parts p) (parts s) = matchT ((parts p).map partsTok) (parts s) from rfl] at HR
        clear hok hpa hnames hparts hv hpl1 h47 h2 hPA hPB hsl
        generalize matchT ((parts p).map partsTok) (parts s) = res at *
        generalize parts p = lp at *
        generalize parts s = ls at *
        have hne1 : ((lp.length : Int) == 1) = false := by rw [beq_eq_false_iff_ne]; omega
        go_enter Tryd.func19, Tryd.ntmps19
        go_wp2_with (fail)
        refine HC.out.mono ?_
        rintro e w1 ⟨rfl, hw1⟩
        go_wp2_with (fail)
        refine (HPP.out _).mono ?_
        rintro e w2 ⟨rfl, hw2⟩
        have hB2 := hw1.trans (hw2.mono hw1.size)
        clear hw1 hw2
        go_wp2_with (fail)
        refine (HP.out _).mono ?_
        rintro e w3 ⟨A, c, rfl, hc, hm, hr, hw3, hA0⟩
        have hB3 := hB2.trans (hw3.mono hB2.size)
        clear hw3 hB2
        go_wp2_with (fail)
        refine (HPB.out _).mono ?_
        rintro e w4 ⟨B, d, rfl, hd, hm2, hr2, hw4, hA02⟩
        have hB4 := hB3.trans (hw4.mono hB3.size)
        have hr4 := hr.below hw4
        clear hw4 hB3 hr
        have HQ := Lib.hid (HPA.out A c B d w4 hc hd hr4 hr2)
        clear HPA hc hd hm hm2 hA0 hA02 hr4 hr2
        go_wp2_with (fail)
        refine HQ.out.mono ?_
        rintro e w5 ⟨rfl, hw5⟩
        go_wp2_with (fail)
        go_ret
        exact ⟨by rw [HR.out]; rfl, hB4.trans (hw5.mono hB4.size)⟩
      · have hpn := parts_none p h47
        rw [hpn] at hPA
        have HP := Lib.hid hPA
        obtain ⟨k2, hk2⟩ : ∃ k, (parts s).length = k + 1 := ⟨s.count 47, parts_length s⟩
        by_cases h2 : p = [42, 42]
        · subst h2
          have HR := Lib.hid (matchG_2stars hpa)
          clear hok hpa hnames hparts hv hPA hPB hsl hpn h47 hne h400
          generalize parts s = ls at *
          go_enter Tryd.func19, Tryd.ntmps19
          go_wp2_with (fail)
          refine HC.out.mono ?_
          rintro e w1 ⟨rfl, hw1⟩
          go_wp2_with (fail)
          refine (HPP.out _).mono ?_
          rintro e w2 ⟨rfl, hw2⟩
          have hB2 := hw1.trans (hw2.mono hw1.size)
          clear hw1 hw2
          go_wp2_with (fail)
          refine (HP.out _).mono ?_
          rintro e w3 ⟨A, c, rfl, hc, hm, hr, hw3, hA0⟩
          have hB3 := hB2.trans (hw3.mono hB2.size)
          clear hw3 hB2 hc hm hr hA0
          go_wp2_with (fail)
          refine (HPB.out _).mono ?_
          rintro e w4 ⟨B, d, rfl, hd, hm2, hr2, hw4, hA02⟩
          have hB4 := hB3.trans (hw4.mono hB3.size)
          clear hw4 hB3 hd hm2 hr2 hA02
          go_wp2_with (fail)
          go_ret
          exact ⟨by rw [HR.out]; rfl, hB4⟩
        · have h2b : (p == [42, 42]) = false := by rw [beq_eq_false_iff_ne]; exact h2
          have hpp : Lib.validD p = true ∧ wfP p = true := hparts p (by rw [hpn]; simp)
          have hlast : ∀ h : k2 < (parts s).length, (parts s)[k2] = baseM s := fun h => by
            rw [base_last hpa, List.getLast_eq_getElem]
            congr 1; omega
          have hbv : Lib.validD (baseM s) = true ∧ (baseM s).length ≤ s.length := by
            rw [base_last hpa]
            have hm : (parts s).getLast (parts_ne s) ∈ parts s := List.getLast_mem _
            exact ⟨hnames _ hm, part_len hm⟩
          have HR := Lib.hid (matchG_base hok hpa h2 h47)
          have HRU := Lib.hid (fun W => Runes_ref (baseM s) W hbv.1 (by omega))
          have hYl : (runesP (baseM s)).length ≤ 65536 := Nat.le_trans (lits_le (baseM s) hbv.1 _ (Nat.le_refl _)) (by omega)
          have HPT := Lib.hid (fun A cA W (hcA : (runesP (baseM s)).length ≤ cA) hr => part_ref _ p (runesP (baseM s)) A cA W (Nat.le_refl _) hpp.1 hpp.2 (by omega) hYl hcA hr)
          rw [show partP p (baseM s) = matchT (toksP p) (runesP (baseM s)) from rfl] at HR
          have e1 : IntKind.i64.wrap (k2 : Int) = k2 := IntWalk.i64_in _ (by omega)
          have k0 : (0 : Int) ≤ k2 := by omega
          have k1 : (k2 : Int) < (k2 : Int) + 1 := by omega
          clear hok hpa hnames hparts hv hPA hPB hpn h47 h2 hpp hbv hYl
          generalize matchT (toksP p) (runesP (baseM s)) = res at *
          generalize runesP (baseM s) = Y at *
          generalize parts s = ls at *
          generalize baseM s = bs at *
          go_enter Tryd.func19, Tryd.ntmps19
          go_wp2_with (fail)
          refine HC.out.mono ?_
          rintro e w1 ⟨rfl, hw1⟩
          go_wp2_with (fail)
          refine (HPP.out _).mono ?_
          rintro e w2 ⟨rfl, hw2⟩
          have hB2 := hw1.trans (hw2.mono hw1.size)
          clear hw1 hw2
          go_wp2_with (fail)
          refine (HP.out _).mono ?_
          rintro e w3 ⟨A, c, rfl, hc, hm, hr, hw3, hA0⟩
          have hB3 := hB2.trans (hw3.mono hB2.size)
          clear hw3 hB2 hc hm hr hA0
          go_wp2_with (fail)
          refine (HPB.out _).mono ?_
          rintro e w4 ⟨B, d, rfl, hd, hm2, hr2, hw4, hA02⟩
          have hB4 := hB3.trans (hw4.mono hB3.size)
          obtain ⟨ad, rfl, cZ⟩ := hr2.str_at (k := k2) (by omega)
          rw [hlast] at cZ
          clear hw4 hB3 hd hm2 hr2 hA02 hlast
          rw [hk2]
          clear hk2
          go_wp2_with (fail)
          refine (HRU.out _).mono ?_
          rintro e w5 ⟨A5, c5, rfl, hc5, hm5, hr5, hw5, _⟩
          have hB5 := hB4.trans (hw5.mono hB4.size)
          have HQ := Lib.hid (HPT.out A5 c5 w5 hc5 hr5)
          clear hw5 hB4 hc5 hr5 hm5 cZ
          go_wp2_with (fail)
          refine HQ.out.mono ?_
          rintro e w6 ⟨rfl, hw6⟩
          go_wp2_with (fail)
          go_ret
          exact ⟨by rw [HR.out]; rfl, hB5.trans (hw6.mono hB5.size)⟩
end Go.Proofs.YtjhjepkmcbjgoaaDoor
end

/- The document's plan: Same, Program, find, chosen. -/
section
set_option linter.unusedVariables false
namespace Go.Proofs.YtjhjepkmcbjgoaaDoor
open Go.RowKit Plain

namespace Plain
def atI (l : List Itm) (s : List UInt8) (i : Nat) : Bool := match l[i]? with | some x => x.path == s | none => false
def atC (l : List Chc) (s : List UInt8) (i : Nat) : Bool := match l[i]? with | some x => x.path == s | none => false
def idxI (l : List Itm) (s : List UInt8) : Option Nat := firstB (atI l s) 0 l.length
def idxC (l : List Chc) (s : List UInt8) : Option Nat := firstB (atC l s) 0 l.length
def oI : Option Nat → Int
  | none => -1
  | some i => i
theorem atI_at {l : List Itm} {s : List UInt8} {i : Nat} (h : i < l.length) : atI l s i = (l[i].path == s) := by unfold atI; rw [List.getElem?_eq_getElem h]
theorem atC_at {l : List Chc} {s : List UInt8} {i : Nat} (h : i < l.length) : atC l s i = (l[i].path == s) := by unfold atC; rw [List.getElem?_eq_getElem h]
theorem idxI_look {l : List Itm} {s : List UInt8} {k : Nat} (h : idxI l s = some k) : ∃ hk : k < l.length, lookI l s = some l[k].what ∧ l[k].path = s := by
  unfold idxI at h
  rw [firstB_some l.length 0 l.length k (by omega)] at h
  obtain ⟨-, hk, h1, h2⟩ := h
  rw [atI_at hk] at h1
  refine ⟨hk, ?_, by simpa using h1⟩
  unfold lookI
  have : l.find? (fun x => x.path == s) = some l[k] := List.find?_eq_some_iff_getElem.2 ⟨h1, k, hk, rfl, fun j hj => by
    have := h2 j (by omega) hj
    rw [atI_at (by omega)] at this
    simpa using this⟩
  rw [this]; rfl
theorem idxC_look {l : List Chc} {s : List UInt8} {k : Nat} (h : idxC l s = some k) : ∃ hk : k < l.length, lookC l s = some l[k].act ∧ l[k].path = s := by
  unfold idxC at h
  rw [firstB_some l.length 0 l.length k (by omega)] at h
  obtain ⟨-, hk, h1, h2⟩ := h
  rw [atC_at hk] at h1
  refine ⟨hk, ?_, by simpa using h1⟩
  unfold lookC
  have : l.find? (fun x => x.path == s) = some l[k] := List.find?_eq_some_iff_getElem.2 ⟨h1, k, hk, rfl, fun j hj => by
    have := h2 j (by omega) hj
    rw [atC_at (by omega)] at this
    simpa using this⟩
  rw [this]; rfl
theorem idxI_none {l : List Itm} {s : List UInt8} (h : idxI l s = none) : lookI l s = none := by
  unfold idxI at h
  rw [firstB_none l.length 0 l.length (by omega)] at h
  rw [lookI_none]
  intro x hx
  obtain ⟨i, hi, rfl⟩ := List.getElem_of_mem hx
  have := h i (by omega) hi
  rw [atI_at hi] at this
  simpa using this
theorem idxC_none {l : List Chc} {s : List UInt8} (h : idxC l s = none) : lookC l s = none := by
  unfold idxC at h
  rw [firstB_none l.length 0 l.length (by omega)] at h
  rw [lookC_none]
  intro x hx
  obtain ⟨i, hi, rfl⟩ := List.getElem_of_mem hx
  have := h i (by omega) hi
  rw [atC_at hi] at this
  simpa using this
/-- is one of that path ahead? -/
theorem idxI_ahead {l : List Itm} {i : Nat} (h : i < l.length) : ∃ k, idxI l l[i].path = some k ∧ (lookI (l.take i) l[i].path).isSome = decide (k < i) := by
  cases hk : idxI l l[i].path with
  | none =>
    have := idxI_none hk
    rw [lookI_none] at this
    exact absurd rfl (this _ (List.getElem_mem h))
  | some k =>
    refine ⟨k, rfl, ?_⟩
    unfold idxI at hk
    rw [firstB_some l.length 0 l.length k (by omega)] at hk
    obtain ⟨-, hkl, h1, h2⟩ := hk
    rw [atI_at hkl] at h1
    by_cases hki : k < i
    · rw [decide_eq_true hki]
      cases hl : lookI (l.take i) l[i].path with
      | some d => rfl
      | none =>
        rw [lookI_none] at hl
        have hm : l[k] ∈ l.take i := by
          have : (l.take i)[k]'(by rw [List.length_take]; omega) = l[k] := by simp
          rw [← this]; exact List.getElem_mem _
        exact absurd (by simpa using h1) (hl _ hm)
    · rw [decide_eq_false hki]
      cases hl : lookI (l.take i) l[i].path with
      | none => rfl
      | some d =>
        obtain ⟨j, hj, h3, -⟩ := lookI_mem hl
        have hj' : j < i ∧ j < l.length := by rw [List.length_take] at hj; omega
        have := h2 j (by omega) (by omega)
        rw [atI_at hj'.2] at this
        rw [List.getElem_take] at h3
        rw [h3] at this; simp at this
theorem idxC_ahead {l : List Chc} {i : Nat} (h : i < l.length) : ∃ k, idxC l l[i].path = some k ∧ (lookC (l.take i) l[i].path).isSome = decide (k < i) := by
  cases hk : idxC l l[i].path with
  | none =>
    have := idxC_none hk
    rw [lookC_none] at this
    exact absurd rfl (this _ (List.getElem_mem h))
  | some k =>
    refine ⟨k, rfl, ?_⟩
    unfold idxC at hk
    rw [firstB_some l.length 0 l.length k (by omega)] at hk
    obtain ⟨-, hkl, h1, h2⟩ := hk
    rw [atC_at hkl] at h1
    by_cases hki : k < i
    · rw [decide_eq_true hki]
      cases hl : lookC (l.take i) l[i].path with
      | some d => rfl
      | none =>
        rw [lookC_none] at hl
        have hm : l[k] ∈ l.take i := by
          have : (l.take i)[k]'(by rw [List.length_take]; omega) = l[k] := by simp
          rw [← this]; exact List.getElem_mem _
        exact absurd (by simpa using h1) (hl _ hm)
    · rw [decide_eq_false hki]
      cases hl : lookC (l.take i) l[i].path with
      | none => rfl
      | some d =>
        obtain ⟨j, hj, h3, -⟩ := lookC_mem hl
        have hj' : j < i ∧ j < l.length := by rw [List.length_take] at hj; omega
        have := h2 j (by omega) (by omega)
        rw [atC_at hj'.2] at this
        rw [List.getElem_take] at h3
        rw [h3] at this; simp at this
end Plain

set_option maxHeartbeats 1000000 in
theorem Same_ref (a : List Chc) (A B : Option Addr) (n c d : Nat) (w : World) (ha : IsRows w 2 A (a.map chcV)) (hb : IsRows w 2 B (a.map chcV)) (hla : a.length ≤ 4294967296) (hn : n = a.length) :
    Calls Tryd.prog 11 #[.slice A n c, .slice B n d] w (Ret w (.bool true)) := by
  subst hn
  have HA := Lib.hid (fun W (h : Below w.heap.size w W) => ha.below h)
  have HB := Lib.hid (fun W (h : Below w.heap.size w W) => hb.below h)
  clear ha hb
  go_enter Tryd.func11, Tryd.ntmps11
  go_wp2_with (fail)
  go_loopw [5] (fun t5 W => ∃ i : Nat, i ≤ a.length ∧ t5 = .int .i64 i ∧ Hid (Below w.heap.size w W)) (fun t5 _ => a.length - (intOf t5).toNat)
  case atStart => exact ⟨0, by omega, rfl, Lib.hid (Below.refl _ _)⟩
  case round =>
    obtain ⟨i, hi, rfl, HW⟩ := hrel
    have i0 : (0 : Int) ≤ i := by omega
    have e1 : IntKind.i64.wrap ((i : Int) + 1) = (i : Int) + 1 := IntWalk.i64_in _ (by omega)
    by_cases hlt : i < a.length
    · have i1 : (i : Int) < a.length := by omega
      obtain ⟨ad, rfl, q0, q1⟩ := chc_at (HA.out _ HW.out) hlt
      obtain ⟨ad2, rfl, q2, q3⟩ := chc_at (HB.out _ HW.out) hlt
      generalize a[i] = x at *
      go_wp2_with (fail)
      go_quiet (fail)
      go_wp2_with (fail)
      go_roundw
      case rel => exact ⟨i + 1, by omega, by go_num, Lib.hid (below_drewN HW.out _)⟩
      case measure => simp [intOf]; omega
    · have i1 : decide ((i : Int) < (a.length : Int)) = false := by rw [decide_eq_false_iff_not]; omega
      go_wp2_with (fail)
      go_ret
      exact ⟨rfl, HW.out⟩

set_option maxHeartbeats 1000000 in
theorem find_ref (l : List Itm) (A : Option Addr) (c : Nat) (s : List UInt8) (w : World) (ha : IsRows w 2 A (l.map itmV)) (hl : l.length ≤ 4294967296) :
    Calls Tryd.prog 15 #[.slice A l.length c, .string ⟨s.toArray⟩] w (Ret w (.int .i64 (oI (idxI l s)))) := by
  have HA := Lib.hid ha
  obtain ⟨res, hres⟩ : ∃ r, idxI l s = r := ⟨_, rfl⟩
  have HRES := Lib.hid (show firstB (atI l s) 0 l.length = res from hres)
  rw [hres]
  clear ha hres
  go_enter Tryd.func15, Tryd.ntmps15
  go_wp2_with (fail)
  go_loopw [5] (fun t5 W => ∃ i : Nat, i ≤ l.length ∧ t5 = .int .i64 i ∧ Hid (firstB (atI l s) i l.length = res) ∧ W = w) (fun t5 _ => l.length - (intOf t5).toNat)
  case atStart => exact ⟨0, by omega, rfl, HRES, rfl⟩
  case round =>
    obtain ⟨i, hi, rfl, HE, rfl⟩ := hrel
    have i0 : (0 : Int) ≤ i := by omega
    have e1 : IntKind.i64.wrap ((i : Int) + 1) = (i : Int) + 1 := IntWalk.i64_in _ (by omega)
    by_cases hlt : i < l.length
    · have i1 : (i : Int) < l.length := by omega
      obtain ⟨ad, rfl, q0, q1⟩ := itm_at HA.out hlt
      have hat := firstB_at (p := atI l s) hlt
      rw [HE.out, atI_at hlt] at hat
      generalize l[i].path = q at *
      cases hq : (q == s) with
      | true =>
        rw [hq] at hat
        have HE2 := Lib.hid (show res = some i by simpa using hat)
        clear hat
        go_wp2_with (fail)
        go_ret
        exact ⟨by rw [HE2.out]; rfl, Below.refl _ _⟩
      | false =>
        rw [hq] at hat
        have HE2 := Lib.hid (show firstB (atI l s) (i + 1) l.length = res by simpa using hat.symm)
        clear hat
        go_wp2_with (fail)
        go_roundw
        case rel => exact ⟨i + 1, by omega, by go_num, HE2, by first | trivial | rfl⟩
        case measure => simp [intOf]; omega
    · obtain rfl : i = l.length := by omega
      have i1 : decide ((l.length : Int) < (l.length : Int)) = false := by rw [decide_eq_false_iff_not]; omega
      have HE2 := Lib.hid (show res = none by rw [← HE.out, firstB_end])
      go_wp2_with (fail)
      go_ret
      exact ⟨by rw [HE2.out]; rfl, Below.refl _ _⟩

set_option maxHeartbeats 1000000 in
theorem chosen_ref (l : List Chc) (A : Option Addr) (c : Nat) (s : List UInt8) (w : World) (ha : IsRows w 2 A (l.map chcV)) (hl : l.length ≤ 4294967296) :
    Calls Tryd.prog 16 #[.slice A l.length c, .string ⟨s.toArray⟩] w (Ret w (.int .i64 (oI (idxC l s)))) := by
  have HA := Lib.hid ha
  obtain ⟨res, hres⟩ : ∃ r, idxC l s = r := ⟨_, rfl⟩
  have HRES := Lib.hid (show firstB (atC l s) 0 l.length = res from hres)
  rw [hres]
  clear ha hres
  go_enter Tryd.func16, Tryd.ntmps16
  go_wp2_with (fail)
  go_loopw [5] (fun t5 W => ∃ i : Nat, i ≤ l.length ∧ t5 = .int .i64 i ∧ Hid (firstB (atC l s) i l.length = res) ∧ W = w) (fun t5 _ => l.length - (intOf t5).toNat)
  case atStart => exact ⟨0, by omega, rfl, HRES, rfl⟩
  case round =>
    obtain ⟨i, hi, rfl, HE, rfl⟩ := hrel
    have i0 : (0 : Int) ≤ i := by omega
    have e1 : IntKind.i64.wrap ((i : Int) + 1) = (i : Int) + 1 := IntWalk.i64_in _ (by omega)
    by_cases hlt : i < l.length
    · have i1 : (i : Int) < l.length := by omega
      obtain ⟨ad, rfl, q0, q1⟩ := chc_at HA.out hlt
      have hat := firstB_at (p := atC l s) hlt
      rw [HE.out, atC_at hlt] at hat
      generalize l[i].path = q at *
      cases hq : (q == s) with
      | true =>
        rw [hq] at hat
        have HE2 := Lib.hid (show res = some i by simpa using hat)
        clear hat
        go_wp2_with (fail)
        go_ret
        exact ⟨by rw [HE2.out]; rfl, Below.refl _ _⟩
      | false =>
        rw [hq] at hat
        have HE2 := Lib.hid (show firstB (atC l s) (i + 1) l.length = res by simpa using hat.symm)
        clear hat
        go_wp2_with (fail)
        go_roundw
        case rel => exact ⟨i + 1, by omega, by go_num, HE2, by first | trivial | rfl⟩
        case measure => simp [intOf]; omega
    · obtain rfl : i = l.length := by omega
      have i1 : decide ((l.length : Int) < (l.length : Int)) = false := by rw [decide_eq_false_iff_not]; omega
      have HE2 := Lib.hid (show res = none by rw [← HE.out, firstB_end])
      go_wp2_with (fail)
      go_ret
      exact ⟨by rw [HE2.out]; rfl, Below.refl _ _⟩

set_option maxHeartbeats 1000000 in
theorem Program_ref (A0 : Option Addr) (n0 c0 : Nat) (A1 : Option Addr) (n1 c1 : Nat) (A2 : Option Addr) (c2 : Nat) (p : Prf) (fast : Bool) (s : List UInt8) (w : World) (hs : s.length ≤ 8796093022200) (hR : IsRows w 2 A2 (p.merge.map prgV)) (hlen : p.merge.length ≤ 4294967296) :
    Calls Tryd.prog 13 #[profV A0 n0 c0 A1 n1 c1 A2 c2 p fast, .string ⟨s.toArray⟩] w (Ret w (.string ⟨(progP p.merge s).toArray⟩)) := by
  unfold profV
  have HM := Lib.hid (fun q W => Match_ref q s W hs)
  have HRR := Lib.hid (fun W (h : Below w.heap.size w W) => hR.below h)
  obtain ⟨merge, prefer, force, batch⟩ := p
  simp only at hlen HRR ⊢
  obtain ⟨res, hres⟩ : ∃ r, progP merge s = r := ⟨_, rfl⟩
  have HRES := Lib.hid (show progF [] (merge.drop 0) s = res from hres)
  rw [hres]
  obtain ⟨w1, hw1⟩ : ∃ w1, w.alloc (.cells #[.slice A0 n0 c0, .slice A1 n1 c1, .slice A2 merge.length c2, .int .i64 prefer, .int .i64 force, .bool batch, .bool fast] 26) = w1 := ⟨_, rfl⟩
  have HW1 := Lib.hid hw1
  have HB1 := Lib.hid (show Below w.heap.size w w1 by rw [← hw1]; exact (Below.refl _ _).alloc (Nat.le_refl _) _)
  have HC1 := Lib.hid (show w1.cell? ⟨w.heap.size, 2, none⟩ = some (.slice A2 merge.length c2) by rw [← hw1]; simp [go_sem])
  clear hR hres hw1
  go_enter Tryd.func13, Tryd.ntmps13
  go_wp2_with (fail)
  rw [HW1.out]
  go_loopw [5, 6] (fun t5 t6 W => ∃ (i : Nat) (a : List UInt8), i ≤ merge.length ∧ t5 = .string ⟨a.toArray⟩ ∧ t6 = .int .i64 i ∧ Hid (progF a (merge.drop i) s = res) ∧ Hid (Below w1.heap.size w1 W)) (fun _ t6 _ => merge.length - (intOf t6).toNat)
  case atStart => exact ⟨0, [], by omega, rfl, rfl, HRES, Lib.hid (Below.refl _ _)⟩
  case round =>
    obtain ⟨i, a, hi, rfl, rfl, HE, HB⟩ := hrel
    have i0 : (0 : Int) ≤ i := by omega
    have e1 : IntKind.i64.wrap ((i : Int) + 1) = (i : Int) + 1 := IntWalk.i64_in _ (by omega)
    have hc2 := (HB.out.cell (World.block_lt_of_cell? _ _ HC1.out)).trans HC1.out
    by_cases hlt : i < merge.length
    · have i1 : (i : Int) < merge.length := by omega
      obtain ⟨ad, rfl, q0, q1⟩ := prg_at (HRR.out _ (HB1.out.trans (HB.out.mono HB1.out.size))) hlt
      have hM := HM.out merge[i].pat wr
      have hat := progF_at hlt a s
      rw [HE.out] at hat
      generalize merge[i] = ru at *
      cases hm : matchG ru.pat s with
      | true =>
        rw [hm] at hM hat
        have HM2 := Lib.hid hM
        have HE2 := Lib.hid hat.symm
        clear hM hat hm
        go_wp2_with (fail)
        refine HM2.out.mono ?_
        rintro e w2 ⟨rfl, hw2⟩
        have hc3 := (hw2.cell (World.block_lt_of_cell? _ _ hc2)).trans hc2
        have q0' := (hw2.cell (World.block_lt_of_cell? _ _ q0)).trans q0
        have HB2 := Lib.hid (HB.out.trans (hw2.mono HB.out.size))
        clear hw2 q0 q1 hc2
        go_wp2_with (fail)
        go_roundw
        case rel => exact ⟨i + 1, ru.name, by omega, rfl, by go_num, HE2, HB2⟩
        case measure => simp [intOf]; omega
      | false =>
        rw [hm] at hM hat
        have HM2 := Lib.hid hM
        have HE2 := Lib.hid hat.symm
        clear hM hat hm
        go_wp2_with (fail)
        refine HM2.out.mono ?_
        rintro e w2 ⟨rfl, hw2⟩
        have HB2 := Lib.hid (HB.out.trans (hw2.mono HB.out.size))
        clear hw2 q0 q1 hc2
        go_wp2_with (fail)
        go_roundw
        case rel => exact ⟨i + 1, a, by omega, rfl, by go_num, HE2, HB2⟩
        case measure => simp [intOf]; omega
    · obtain rfl : i = merge.length := by omega
      have i1 : decide ((merge.length : Int) < (merge.length : Int)) = false := by rw [decide_eq_false_iff_not]; omega
      have HE2 := Lib.hid (show res = a by rw [← HE.out]; exact progF_end _ _ _)
      go_wp2_with (fail)
      go_ret
      exact ⟨by rw [HE2.out]; rfl, HB1.out.trans (HB.out.mono HB1.out.size)⟩
end Go.Proofs.YtjhjepkmcbjgoaaDoor
end

/- A load of a struct at whatever address, in a region that draws its order. -/
section
set_option linter.unusedVariables false
namespace Go.Proofs.YtjhjepkmcbjgoaaDoor
open Go.RowKit

theorem run_loadVar_at {P : Program} (w : World) (a : Addr) (ty : TypeId) (cs : List Value) (d : TypeDesc) (hc : ∀ j v, cs[j]? = some v → w.cell? (a.add j) = some v)
    (hu : P.underlying ty = some d) (hd : d.isRow = true) (hi : (P.info? ty).map (·.size) = some cs.length) :
    (loadVar ty a).run P w = .ok (.agg cs.toArray) w := by
  have hl : (loadCells a cs.length).run P w = .ok cs.toArray w := run_loadCells_list (P := P) w a cs hc
  cases hq : P.info? ty with
  | none => simp [hq] at hi
  | some i =>
    have hs : i.size = cs.length := by simpa [hq] using hi
    have hagg : (isAgg ty).run P w = .ok true w := by
      unfold isAgg
      rw [Sem.run_bind, run_underlying hu w]
      cases d <;> simp_all
    simp [loadVar, Sem.run_bind, hagg, sizeOf, typeInfo, hq, hs, hl]
theorem quiet_load_at {P : Program} {w : World} {o : Oper} {a : Act} {K : Act → Prop} (ty : TypeId) (x : Operand) (ho : o.op = .load ty x)
    (p : Addr) (hx : a.eval x = .pointer (some p)) (cs : List Value) (d : TypeDesc) (hc : ∀ j v, cs[j]? = some v → w.cell? (p.add j) = some v)
    (hu : P.underlying ty = some d) (hd : d.isRow = true) (hi : (P.info? ty).map (·.size) = some cs.length)
    (h : K (a.put o.dst (.agg cs.toArray))) : o.quiet P a (fun W => Below w.heap.size w W) K := by
  refine ⟨.agg cs.toArray, fun W hW => ?_, h⟩
  have hcW : ∀ j v, cs[j]? = some v → W.cell? (p.add j) = some v := fun j v hv => (hW.cell (World.block_lt_of_cell? _ _ (hc j v hv))).trans (hc j v hv)
  unfold Oper.quietAt execOp
  simp only [ho, hx, Instr.loadAt, Instr.sureAddr, Sem.run_bind, Sem.run_pure, Result.andThen_ok, run_loadVar_at W p ty cs d hcW hu hd hi]
  exact ⟨rfl, rfl⟩
theorem pair_cells {w : World} {p : Addr} {u v : Value} (h0 : w.cell? p = some u) (h1 : w.cell? ⟨p.block, p.off + 1, none⟩ = some v) : ∀ j x, [u, v][j]? = some x → w.cell? (p.add j) = some x := by
  intro j x hx
  match j, hx with
  | 0, hx => simp at hx; rw [← hx]; exact h0
  | 1, hx => simp at hx; rw [← hx]; exact h1
  | j + 2, hx => simp at hx
end Go.Proofs.YtjhjepkmcbjgoaaDoor
end

/- The document's plan: does. -/
section
set_option linter.unusedVariables false
namespace Go.Proofs.YtjhjepkmcbjgoaaDoor
open Go.RowKit Plain

set_option maxRecDepth 100000 in
set_option maxHeartbeats 4000000 in
theorem does_ref (x : Itm) (A0 : Option Addr) (n0 c0 : Nat) (A1 : Option Addr) (n1 c1 : Nat) (A2 : Option Addr) (c2 : Nat) (p : Prf) (fast : Bool) (ch : List Chc) (B : Option Addr) (cb : Nat) (w : World) (hs : x.path.length ≤ 8796093022200) (hR : IsRows w 2 A2 (p.merge.map prgV)) (hlen : p.merge.length ≤ 4294967296)
    (hC : IsRows w 2 B (ch.map chcV)) (hcl : ch.length ≤ 4294967296) (hw1 : 2 ≤ x.what) (hw2 : x.what ≤ 4) (h44 : lookC ch x.path = some 4 → x.what ≠ 4) :
    Calls Tryd.prog 17 #[.agg #[.string ⟨x.path.toArray⟩, .int .i64 x.what], profV A0 n0 c0 A1 n1 c1 A2 c2 p fast, .slice B ch.length cb] w (Ret w (.int .i64 (actP x.what (progP p.merge x.path) p (lookC ch x.path)))) := by
  have HPR := Lib.hid (fun W (h : Below w.heap.size w W) => Program_ref A0 n0 c0 A1 n1 c1 A2 c2 p fast x.path W hs (hR.below h) hlen)
  have HCH := Lib.hid (fun W (h : Below w.heap.size w W) => chosen_ref ch B cb x.path W (hC.below h) hcl)
  have HRC := Lib.hid (fun W (h : Below w.heap.size w W) => hC.below h)
  obtain ⟨path, what⟩ := x
  obtain ⟨merge, prefer, force, batch⟩ := p
  unfold profV at *
  simp only at HPR HCH hw1 hw2 h44 hlen ⊢
  obtain ⟨w2, hw2'⟩ : ∃ w2, (w.alloc (.cells #[.string ⟨path.toArray⟩, .int .i64 what] 38)).alloc (.cells #[.slice A0 n0 c0, .slice A1 n1 c1, .slice A2 merge.length c2, .int .i64 prefer, .int .i64 force, .bool batch, .bool fast] 26) = w2 := ⟨_, rfl⟩
  have HB2 := Lib.hid (show Below w.heap.size w w2 by rw [← hw2']; exact ((Below.refl _ _).alloc (Nat.le_refl _) _).alloc (by simp) _)
  have HLT := Lib.hid (show w.heap.size + 1 < w2.heap.size by rw [← hw2']; simp)
  have HP := Lib.hid (show w2.heap[w.heap.size + 1]? = some (.cells #[.slice A0 n0 c0, .slice A1 n1 c1, .slice A2 merge.length c2, .int .i64 prefer, .int .i64 force, .bool batch, .bool fast] 26 (0, 0)) by rw [← hw2']; exact heap_alloc2_new _ _ _)
  have HX := Lib.hid (show w2.heap[w.heap.size]? = some (.cells #[.string ⟨path.toArray⟩, .int .i64 what] 38 (0, 0)) by rw [← hw2']; exact heap_alloc2_old _ _ _)
  have HW2 := Lib.hid hw2'
  have H44 := Lib.hid h44
  have HM := Lib.hid hR
  clear hw2' hC h44 hR
  obtain ⟨res, hres⟩ : ∃ r, actP what (progP merge path) { merge := merge, prefer := prefer, force := force, batch := batch } (lookC ch path) = r := ⟨_, rfl⟩
  have HRES := Lib.hid hres
  rw [hres]
  generalize progP merge path = prog at *
  clear hres
  cases h4 : (what == 4)
  all_goals
    go_enter Tryd.func17, Tryd.ntmps17
    go_wp2_with (fail)
    rw [HW2.out]
    refine (HCH.out _ HB2.out).mono ?_
    rintro e w3 ⟨rfl, hb3⟩
    have HB3 := Lib.hid (HB2.out.trans (hb3.mono HB2.out.size))
    have HB23 := Lib.hid hb3
    have hp3 := (hb3.block _ HLT.out).trans HP.out
    have hx3 := (hb3.block _ (Nat.lt_trans (Nat.lt_succ_self _) HLT.out)).trans HX.out
    have HP3 := Lib.hid hp3
    have HX3 := Lib.hid hx3
    have x0 := cell_of_row w3 w.heap.size 0 _ _ _ hx3
    have x1 := cell_of_row w3 w.heap.size 1 _ _ _ hx3
    have p0 := cell_of_row w3 (w.heap.size + 1) 0 _ _ _ hp3
    have p1 := cell_of_row w3 (w.heap.size + 1) 1 _ _ _ hp3
    have p2 := cell_of_row w3 (w.heap.size + 1) 2 _ _ _ hp3
    have p3 := cell_of_row w3 (w.heap.size + 1) 3 _ _ _ hp3
    have p4 := cell_of_row w3 (w.heap.size + 1) 4 _ _ _ hp3
    have p5 := cell_of_row w3 (w.heap.size + 1) 5 _ _ _ hp3
    have p6 := cell_of_row w3 (w.heap.size + 1) 6 _ _ _ hp3
    clear hb3 hp3 hx3
    have HPR3 := Lib.hid (HPR.out w3 HB3.out)
    cases hix : idxC ch path with
    | some k =>
      obtain ⟨hk, hlk, -⟩ := idxC_look hix
      obtain ⟨ad, rfl, q0, q1⟩ := chc_at (HRC.out _ HB3.out) hk
      have k0 : (0 : Int) ≤ k := by omega
      have k1 : (k : Int) < ch.length := by omega
      have k2 : decide ((0 : Int) ≤ (k : Int)) = true := decide_eq_true k0
      have k3 : decide ((k : Int) < 0) = false := by rw [decide_eq_false_iff_not]; omega
      have hR2 := HRES.out
      have h44 := H44.out
      rw [hlk] at hR2 h44
      clear hlk
      generalize ch[k].act = act at *
      simp only [oI]
      cases ha : (act == 4) with
      | false =>
        have ha' : (act != 4) = true := by rw [bne, ha]; rfl
        have HR3 := Lib.hid (show res = act by rw [← hR2]; unfold actP; rw [beq_eq_false_iff_ne] at ha; simp [ha])
        clear hR2 h44 ha
        go_wp2_with (fail)
        go_ret
        exact ⟨by rw [HR3.out]; rfl, HB3.out⟩
      | true =>
        have ha' : (act != 4) = false := by rw [bne, ha]; rfl
        obtain rfl : act = 4 := by simpa using ha
        have hwn : what ≠ 4 := h44 rfl
        have e1 : IntKind.i64.wrap (what - 1) = what - 1 := IntWalk.i64_in _ (by omega)
        have HR3 := Lib.hid (show res = what - 1 by rw [← hR2]; unfold actP goes; simp only [if_true]; split <;> omega)
        clear hR2 h44
        first
          | (exfalso; exact hwn (by simpa using h4))
          | (go_wp2_with (fail)
             go_ret
             exact ⟨by rw [HR3.out]; rfl, HB3.out⟩)
    | none =>
      have hR2 := HRES.out
      rw [idxC_none hix] at hR2
      simp only [oI]
      have hR3 : res = if force = 1 ∨ force = 2 then force else if what = 4 then (if prog ≠ [] then 3 else if prefer = 1 ∨ prefer = 2 then prefer else 0) else if batch = true then goes what else 0 := hR2.symm
      clear hR2
      cases hf1 : (force == 1) with
      | true =>
        have HR3 := Lib.hid (show res = force by rw [hR3, if_pos (.inl (by simpa using hf1))])
        clear hR3
        go_wp2_with (fail)
        go_ret
        exact ⟨by rw [HR3.out]; rfl, HB3.out⟩
      | false =>
      cases hf2 : (force == 2) with
      | true =>
        have HR3 := Lib.hid (show res = force by rw [hR3, if_pos (.inr (by simpa using hf2))])
        clear hR3
        go_wp2_with (fail)
        go_ret
        exact ⟨by rw [HR3.out]; rfl, HB3.out⟩
      | false =>
      rw [if_neg (by rw [beq_eq_false_iff_ne] at hf1 hf2; exact fun h => h.elim hf1 hf2)] at hR3
      first
        | (have hwn : what ≠ 4 := by rw [beq_eq_false_iff_ne] at h4; exact h4
           have e1 : IntKind.i64.wrap (what - 1) = what - 1 := IntWalk.i64_in _ (by omega)
           rw [if_neg hwn] at hR3
           cases batch with
           | true =>
             have HR3 := Lib.hid (show res = what - 1 by rw [hR3, if_pos rfl]; unfold goes; split <;> omega)
             clear hR3
             go_wp2_with (fail)
             go_ret
             exact ⟨by rw [HR3.out]; rfl, HB3.out⟩
           | false =>
             have HR3 := Lib.hid (show res = 0 by rw [hR3, if_neg (by simp)])
             clear hR3
             go_wp2_with (fail)
             go_ret
             exact ⟨by rw [HR3.out]; rfl, HB3.out⟩)
        | (have hwy : what = 4 := by simpa using h4
           rw [if_pos hwy] at hR3
           cases prog with
           | cons a q =>
             have HR3 := Lib.hid (show res = 3 by rw [hR3, if_pos (by simp)])
             clear hR3
             go_wp2_with (fail)
             refine HPR3.out.mono ?_
             rintro e w4 ⟨rfl, hb4⟩
             clear x0 x1 p0 p1 p2 p3 p4 p5 p6
             go_wp2_with (fail)
             go_ret
             exact ⟨by rw [HR3.out]; rfl, HB3.out.trans (hb4.mono HB3.out.size)⟩
           | nil =>
             have HR4 := Lib.hid (show res = if prefer = 1 ∨ prefer = 2 then prefer else 0 by rw [hR3, if_neg (by simp)])
             clear hR3
             go_wp2_with (fail)
             refine HPR3.out.mono ?_
             rintro e w4 ⟨rfl, hb4⟩
             clear x0 x1 p0 p1 p2 p3 p4 p5 p6
             have hp4 := (hb4.block _ (Nat.lt_of_lt_of_le HLT.out (Nat.le_trans HB23.out.size (Nat.le_refl _)))).trans HP3.out
             have p3 := cell_of_row w4 (w.heap.size + 1) 3 _ _ _ hp4
             have HB4 := Lib.hid (HB3.out.trans (hb4.mono HB3.out.size))
             clear hb4 hp4
             cases hq1 : (prefer == 1) with
             | true =>
               have HR3 := Lib.hid (show res = prefer by rw [HR4.out, if_pos (.inl (by simpa using hq1))])
               go_wp2_with (fail)
               go_ret
               exact ⟨by rw [HR3.out]; rfl, HB4.out⟩
             | false =>
             cases hq2 : (prefer == 2) with
             | true =>
               have HR3 := Lib.hid (show res = prefer by rw [HR4.out, if_pos (.inr (by simpa using hq2))])
               go_wp2_with (fail)
               go_ret
               exact ⟨by rw [HR3.out]; rfl, HB4.out⟩
             | false =>
               have HR3 := Lib.hid (show res = 0 by rw [HR4.out, if_neg (by rw [beq_eq_false_iff_ne] at hq1 hq2; exact fun h => h.elim hq1 hq2)])
               go_wp2_with (fail)
               go_ret
               exact ⟨by rw [HR3.out]; rfl, HB4.out⟩)
end Go.Proofs.YtjhjepkmcbjgoaaDoor
end

/- The document's plan: Make. -/
section
set_option linter.unusedVariables false
namespace Go.Proofs.YtjhjepkmcbjgoaaDoor
open Go.RowKit Plain

set_option maxRecDepth 100000 in
set_option maxHeartbeats 8000000 in
theorem Make_ref (items : List Itm) (A : Option Addr) (ca : Nat) (A0 : Option Addr) (n0 c0 : Nat) (A1 : Option Addr) (n1 c1 : Nat) (A2 : Option Addr) (c2 : Nat) (p : Prf) (fast : Bool) (ch : List Chc) (B : Option Addr) (cb : Nat) (w : World) (hR : IsRows w 2 A2 (p.merge.map prgV)) (hlen : p.merge.length ≤ 4294967296)
    (hI : IsRows w 2 A (items.map itmV)) (hC : IsRows w 2 B (ch.map chcV)) (hil : items.length ≤ 4294967296) (hcl : ch.length ≤ 4294967296) (his : ∀ x ∈ items, x.path.length ≤ 8796093022200) (hsm : ∀ x ∈ items, OkInt x.what) :
    Calls Tryd.prog 10 #[.slice A items.length ca, profV A0 n0 c0 A1 n1 c1 A2 c2 p fast, .slice B ch.length cb] w (MakePost w (makeP items p ch)) := by
  obtain ⟨i0, hi, hz0, hz1, hz2⟩ := info_parts info_choice
  have HI0 := Lib.hid hi
  have HDO := Lib.hid (fun x W (h : Below w.heap.size w W) (h1 : x.path.length ≤ 8796093022200) (h2 : 2 ≤ x.what) (h3 : x.what ≤ 4) (h4 : lookC ch x.path = some 4 → x.what ≠ 4) => does_ref x A0 n0 c0 A1 n1 c1 A2 c2 p fast ch B cb W h1 (hR.below h) hlen (hC.below h) hcl h2 h3 h4)
  have HFI := Lib.hid (fun s W (h : Below w.heap.size w W) => find_ref items A ca s W (hI.below h) hil)
  have HCH := Lib.hid (fun s W (h : Below w.heap.size w W) => chosen_ref ch B cb s W (hC.below h) hcl)
  have HRI := Lib.hid (fun W (h : Below w.heap.size w W) => hI.below h)
  have HRC := Lib.hid (fun W (h : Below w.heap.size w W) => hC.below h)
  have HIS := Lib.hid his
  have HSZ := Lib.hid (show (Tryd.prog.info? 26).map (·.size) = some 7 by kernel_rfl)
  have HSI := Lib.hid (show (Tryd.prog.info? 38).map (·.size) = some 2 by kernel_rfl)
  obtain ⟨P, hP⟩ : ∃ P, profV A0 n0 c0 A1 n1 c1 A2 c2 p fast = P := ⟨_, rfl⟩
  have HPE := Lib.hid (show P = .agg #[.slice A0 n0 c0, .slice A1 n1 c1, .slice A2 p.merge.length c2, .int .i64 p.prefer, .int .i64 p.force, .bool p.batch, .bool fast] from hP.symm)
  rw [hP] at HDO ⊢
  obtain ⟨w1, hw1⟩ : ∃ w1, w.alloc (.cells #[.slice A0 n0 c0, .slice A1 n1 c1, .slice A2 p.merge.length c2, .int .i64 p.prefer, .int .i64 p.force, .bool p.batch, .bool fast] 26) = w1 := ⟨_, rfl⟩
  have HW1 := Lib.hid hw1
  have HB1 := Lib.hid (show Below w.heap.size w w1 by rw [← hw1]; exact (Below.refl _ _).alloc (Nat.le_refl _) _)
  have HP1 := Lib.hid (show w1.heap[w.heap.size]? = some (.cells #[.slice A0 n0 c0, .slice A1 n1 c1, .slice A2 p.merge.length c2, .int .i64 p.prefer, .int .i64 p.force, .bool p.batch, .bool fast] 26 (0, 0)) by rw [← hw1]; exact heap_alloc_new _ _)
  have HLT1 := Lib.hid (show w.heap.size < w1.heap.size by rw [← hw1]; simp)
  clear hi hR hI hC his hP hw1
  rw [HPE.out, ← mkI_0]
  obtain ⟨res, hres⟩ : ∃ r, mkI items p ch 0 = r := ⟨_, rfl⟩
  have HRES := Lib.hid hres
  rw [hres]
  clear hres
  obtain ⟨res0, hres0⟩ : ∃ r, firstB (itemBad items) 0 items.length = r := ⟨_, rfl⟩
  have HOKI := Lib.hid hres0
  have HOK0 := Lib.hid (show firstB (itemBad items) 0 items.length = res0 from hres0)
  clear hres0
  go_enter Tryd.func10, Tryd.ntmps10
  go_wp2_with (fail)
  rw [HW1.out]
  go_loopw [9] (fun t9 W => ∃ (i : Nat), i ≤ items.length ∧ t9 = .int .i64 i ∧ Hid (mkI items p ch i = res) ∧ Hid (firstB (itemBad items) i items.length = res0) ∧ Hid (Below w1.heap.size w1 W)) (fun t9 _ => items.length - (intOf t9).toNat)
  case atStart => exact ⟨0, by omega, rfl, HRES, HOK0, Lib.hid (Below.refl _ _)⟩
  case round =>
    clear HRES HOK0
    obtain ⟨i, hi, rfl, HE, HF0, HB⟩ := hrel
    have HBW := Lib.hid (HB1.out.trans (HB.out.mono HB1.out.size))
    have i0' : (0 : Int) ≤ i := by omega
    have e1 : IntKind.i64.wrap ((i : Int) + 1) = (i : Int) + 1 := IntWalk.i64_in _ (by omega)
    by_cases hlt : i < items.length
    · have i1 : (i : Int) < items.length := by omega
      obtain ⟨ad, rfl, q0, q1⟩ := itm_at (HRI.out _ HBW.out) hlt
      obtain ⟨k, hk1, hk2⟩ := idxI_ahead hlt
      have hfi := HFI.out items[i].path wr HBW.out
      rw [hk1] at hfi
      have hat := mkI_at (p := p) (ch := ch) hlt
      rw [HE.out, itemBad_at hlt, hk2] at hat
      have hf1 := firstB_at (p := itemBad items) hlt
      rw [HF0.out, itemBad_at hlt, hk2] at hf1
      clear hk1 hk2
      generalize items[i].path = path at *
      generalize items[i].what = what at *
      have HFI2 := Lib.hid hfi
      clear hfi
      simp only [oI] at HFI2
      cases hw1 : decide (what < 1) with
      | true =>
        have HE2 := Lib.hid (show res = ([], i, 91) by rw [hw1] at hat; simpa using hat)
        clear hat hf1
        go_wp2_with (fail)
        go_ret3
        exact ⟨_, by rw [HE2.out]; rfl, by rw [HE2.out]; exact World.ownsRow_nil _ _ _ _, HBW.out⟩
      | false =>
      cases hw4 : decide (4 < what) with
      | true =>
        have HE2 := Lib.hid (show res = ([], i, 91) by rw [hw4] at hat; simpa using hat)
        clear hat hf1
        go_wp2_with (fail)
        go_ret3
        exact ⟨_, by rw [HE2.out]; rfl, by rw [HE2.out]; exact World.ownsRow_nil _ _ _ _, HBW.out⟩
      | false =>
      cases hki : decide (k < i) with
      | true =>
        have HE2 := Lib.hid (show res = ([], i, 91) by rw [hki] at hat; simpa using hat)
        have hki' : decide ((k : Int) < (i : Int)) = true := by rw [decide_eq_true_eq] at hki ⊢; omega
        clear hat hf1
        go_wp2_with (fail)
        refine HFI2.out.mono ?_
        rintro e w2 ⟨rfl, hb2⟩
        have HB2 := Lib.hid (HBW.out.trans (hb2.mono HBW.out.size))
        clear hb2 q0 q1
        go_wp2_with (fail)
        go_ret3
        exact ⟨_, by rw [HE2.out]; rfl, by rw [HE2.out]; exact World.ownsRow_nil _ _ _ _, HB2.out⟩
      | false =>
        have HE2 := Lib.hid (show mkI items p ch (i + 1) = res by rw [hw1, hw4, hki] at hat; simpa using hat.symm)
        have HF2 := Lib.hid (show firstB (itemBad items) (i + 1) items.length = res0 by rw [hw1, hw4, hki] at hf1; simpa using hf1.symm)
        have hki' : decide ((k : Int) < (i : Int)) = false := by rw [decide_eq_false_iff_not] at hki ⊢; omega
        clear hat hf1
        go_wp2_with (fail)
        refine HFI2.out.mono ?_
        rintro e w2 ⟨rfl, hb2⟩
        have HB2 := Lib.hid (HB.out.trans (hb2.mono HB.out.size))
        clear hb2 q0 q1
        go_wp2_with (fail)
        go_roundw
        case rel => exact ⟨i + 1, by omega, by go_num, HE2, HF2, HB2⟩
        case measure => simp [intOf]; omega
    · obtain rfl : i = items.length := by omega
      have i1 : decide ((items.length : Int) < (items.length : Int)) = false := by rw [decide_eq_false_iff_not]; omega
      have HEC := Lib.hid (show mkC items p ch 0 = res by rw [← mkI_end]; exact HE.out)
      have HOI := Lib.hid (show firstB (itemBad items) 0 items.length = none by rw [HOKI.out, ← HF0.out, firstB_end])
      obtain ⟨res1, hres1⟩ : ∃ r, firstB (choiceBad items ch) 0 ch.length = r := ⟨_, rfl⟩
      have HOKC := Lib.hid hres1
      have HOC0 := Lib.hid (show firstB (choiceBad items ch) 0 ch.length = res1 from hres1)
      clear HE HF0 hres1 HBW
      go_wp2_with (fail)
      clear i1
      generalize wr = w2 at *
      go_loopw [10] (fun t10 W => ∃ (j : Nat), j ≤ ch.length ∧ t10 = .int .i64 j ∧ Hid (mkC items p ch j = res) ∧ Hid (firstB (choiceBad items ch) j ch.length = res1) ∧ Hid (Below w1.heap.size w1 W)) (fun t10 _ => ch.length - (intOf t10).toNat)
      case atStart => exact ⟨0, by omega, rfl, HEC, HOC0, HB⟩
      case round =>
        clear HEC HOC0 HB
        obtain ⟨j, hj, rfl, HE, HF1, HB⟩ := hrel
        have HBW := Lib.hid (HB1.out.trans (HB.out.mono HB1.out.size))
        have j0' : (0 : Int) ≤ j := by omega
        have e1 : IntKind.i64.wrap ((j : Int) + 1) = (j : Int) + 1 := IntWalk.i64_in _ (by omega)
        by_cases hlt : j < ch.length
        · have j1 : (j : Int) < ch.length := by omega
          obtain ⟨ad, rfl, q0, q1⟩ := chc_at (HRC.out _ HBW.out) hlt
          obtain ⟨k2, hk1, hk2⟩ := idxC_ahead hlt
          have hci := HCH.out ch[j].path
          rw [hk1] at hci
          have hat := mkC_at (items := items) (p := p) hlt
          rw [HE.out, choiceBad_at hlt, hk2] at hat
          have hf1 := firstB_at (p := choiceBad items ch) hlt
          rw [HF1.out, choiceBad_at hlt, hk2] at hf1
          have hfi := HFI.out ch[j].path wr HBW.out
          clear hk1 hk2
          generalize ch[j].path = path at *
          generalize ch[j].act = act at *
          have HCI := Lib.hid hci
          clear hci
          simp only [oI] at HCI
          cases hix : idxI items path with
          | none =>
            rw [hix] at hfi
            have HFI2 := Lib.hid hfi
            simp only [oI] at HFI2
            rw [idxI_none hix] at hat
            have HE2 := Lib.hid (show res = ([], j, 130) by simpa using hat)
            clear hat hf1 hfi hix
            go_wp2_with (fail)
            refine HFI2.out.mono ?_
            rintro e w3 ⟨rfl, hb3⟩
            have HB3 := Lib.hid (HBW.out.trans (hb3.mono HBW.out.size))
            clear hb3 q0 q1
            go_wp2_with (fail)
            go_ret3
            exact ⟨_, by rw [HE2.out]; rfl, by rw [HE2.out]; exact World.ownsRow_nil _ _ _ _, HB3.out⟩
          | some k =>
            obtain ⟨hk, hlk, -⟩ := idxI_look hix
            rw [hix] at hfi
            have HFI2 := Lib.hid hfi
            simp only [oI] at HFI2
            rw [hlk] at hat hf1
            replace hat : res = if (decide (k2 < j) || (items[k].what == 1 || decide (act < 0) || decide (4 < act) || (act == 4 && items[k].what == 4))) = true then ([], j, 130) else mkC items p ch (j + 1) := hat
            replace hf1 : res1 = if (decide (k2 < j) || (items[k].what == 1 || decide (act < 0) || decide (4 < act) || (act == 4 && items[k].what == 4))) = true then some j else firstB (choiceBad items ch) (j + 1) ch.length := hf1
            clear hfi hix hlk
            have k0 : (0 : Int) ≤ k := by omega
            have k1 : (k : Int) < items.length := by omega
            have k3 : decide ((k : Int) < 0) = false := by rw [decide_eq_false_iff_not]; omega
            have HCELL := Lib.hid (fun W (h : Below w.heap.size w W) => itm_at (HRI.out _ h) hk)
            have HCELC := Lib.hid (fun W (h : Below w.heap.size w W) => (World.block_lt_of_cell? _ _ q0))
            generalize items[k].what = wv at *
            obtain ⟨adk, hA, -, -⟩ := HCELL.out _ HBW.out
            subst hA
            have HCE2 := Lib.hid (fun W (h : Below w.heap.size w W) => show W.cell? ⟨(adk.add (k * 2)).block, (adk.add (k * 2)).off + 1, none⟩ = some (.int .i64 wv) by
              obtain ⟨a, e, -, h2⟩ := HCELL.out W h
              injection e with e
              subst e
              exact h2)
            have HQ := Lib.hid (fun W (h : Below wr.heap.size wr W) => And.intro ((h.cell (World.block_lt_of_cell? _ _ q0)).trans q0) ((h.cell (World.block_lt_of_cell? _ _ q1)).trans q1))
            clear HCELL HCELC
            go_wp2_with (fail)
            refine HFI2.out.mono ?_
            rintro e w3 ⟨rfl, hb3⟩
            have HB3 := Lib.hid (HB.out.trans (hb3.mono HB.out.size))
            have HBW3 := Lib.hid (HB1.out.trans (HB3.out.mono HB1.out.size))
            obtain ⟨q0', q1'⟩ := HQ.out _ hb3
            have r1 := HCE2.out _ HBW3.out
            have HQ3 := Lib.hid (fun W (h : Below w3.heap.size w3 W) => And.intro ((h.cell (World.block_lt_of_cell? _ _ q0')).trans q0') ((h.cell (World.block_lt_of_cell? _ _ q1')).trans q1'))
            clear hb3 q0 q1
            cases b1 : (wv == 1) with
            | true =>
              have HE2 := Lib.hid (show res = ([], j, 130) by rw [b1] at hat; simpa using hat)
              clear hat hf1
              go_wp2_with (fail)
              go_ret3
              exact ⟨_, by rw [HE2.out]; rfl, by rw [HE2.out]; exact World.ownsRow_nil _ _ _ _, HBW3.out⟩
            | false =>
            cases b2 : decide (act < 0) with
            | true =>
              have HE2 := Lib.hid (show res = ([], j, 130) by rw [b2] at hat; simpa using hat)
              clear hat hf1
              go_wp2_with (fail)
              go_ret3
              exact ⟨_, by rw [HE2.out]; rfl, by rw [HE2.out]; exact World.ownsRow_nil _ _ _ _, HBW3.out⟩
            | false =>
            cases b3 : decide (4 < act) with
            | true =>
              have HE2 := Lib.hid (show res = ([], j, 130) by rw [b3] at hat; simpa using hat)
              clear hat hf1
              go_wp2_with (fail)
              go_ret3
              exact ⟨_, by rw [HE2.out]; rfl, by rw [HE2.out]; exact World.ownsRow_nil _ _ _ _, HBW3.out⟩
            | false =>
            have HCI3 := Lib.hid (HCI.out w3 HBW3.out)
            cases b4 : decide (k2 < j) with
            | true =>
              have HE2 := Lib.hid (show res = ([], j, 130) by rw [b4] at hat; simpa using hat)
              have b4' : decide ((k2 : Int) < (j : Int)) = true := by rw [decide_eq_true_eq] at b4 ⊢; omega
              clear hat hf1
              go_wp2_with (fail)
              refine HCI3.out.mono ?_
              rintro e w4 ⟨rfl, hb4⟩
              have HB4 := Lib.hid (HBW3.out.trans (hb4.mono HBW3.out.size))
              clear hb4 q0' q1' r1
              go_wp2_with (fail)
              go_ret3
              exact ⟨_, by rw [HE2.out]; rfl, by rw [HE2.out]; exact World.ownsRow_nil _ _ _ _, HB4.out⟩
            | false =>
              have b4' : decide ((k2 : Int) < (j : Int)) = false := by rw [decide_eq_false_iff_not] at b4 ⊢; omega
              rw [b1, b2, b3, b4] at hat hf1
              simp only [Bool.false_or] at hat hf1
              obtain ⟨bb, hbb⟩ : ∃ b, (act == 4 && wv == 4) = b := ⟨_, rfl⟩
              rw [hbb] at hat hf1
              have HAT := Lib.hid hat
              have HFF := Lib.hid hf1
              clear hat hf1
              go_wp2_with (fail)
              refine HCI3.out.mono ?_
              rintro e w4 ⟨rfl, hb4⟩
              obtain ⟨q0'', q1''⟩ := HQ3.out _ hb4
              have HB4 := Lib.hid (HB3.out.trans (hb4.mono HB3.out.size))
              have HBW4 := Lib.hid (HB1.out.trans (HB4.out.mono HB1.out.size))
              have r1' := HCE2.out _ HBW4.out
              clear hb4 q0' q1' r1
              cases b5 : (act == 4) with
              | true =>
                rw [b5, Bool.true_and] at hbb
                cases bb with
                | true =>
                  have HE2 := Lib.hid (show res = ([], j, 130) by simpa using HAT.out)
                  go_wp2_with (fail)
                  go_ret3
                  exact ⟨_, by rw [HE2.out]; rfl, by rw [HE2.out]; exact World.ownsRow_nil _ _ _ _, HBW4.out⟩
                | false =>
                  have HE2 := Lib.hid (show mkC items p ch (j + 1) = res by simpa using HAT.out.symm)
                  have HF2 := Lib.hid (show firstB (choiceBad items ch) (j + 1) ch.length = res1 by simpa using HFF.out.symm)
                  go_wp2_with (fail)
                  go_roundw
                  case rel => exact ⟨j + 1, by omega, by go_num, HE2, HF2, HB4⟩
                  case measure => simp [intOf]; omega
              | false =>
                rw [b5, Bool.false_and] at hbb
                subst hbb
                have HE2 := Lib.hid (show mkC items p ch (j + 1) = res by simpa using HAT.out.symm)
                have HF2 := Lib.hid (show firstB (choiceBad items ch) (j + 1) ch.length = res1 by simpa using HFF.out.symm)
                go_wp2_with (fail)
                go_roundw
                case rel => exact ⟨j + 1, by omega, by go_num, HE2, HF2, HB4⟩
                case measure => simp [intOf]; omega
        · obtain rfl : j = ch.length := by omega
          have j1 : decide ((ch.length : Int) < (ch.length : Int)) = false := by rw [decide_eq_false_iff_not]; omega
          have HEO := Lib.hid (show res = (outP items p ch, 0, 0) by rw [← mkC_end]; exact HE.out.symm)
          have HOC := Lib.hid (show firstB (choiceBad items ch) 0 ch.length = none by rw [HOKC.out, ← HF1.out, firstB_end])
          clear HE HF1 HBW
          go_wp2_with (fail)
          clear j1
          generalize wr = w3 at *
          have HB3 := Lib.hid HB.out
          go_loopw [12, 13] (fun t12 t13 W => ∃ (k : Nat), k ≤ items.length ∧ t13 = .int .i64 k ∧ Hid (W.ownsRow w3.heap.size 42 2 t12 (outP (items.take k) p ch).length (rowsE chcV (outP (items.take k) p ch))) ∧ Hid (Below w3.heap.size w3 W)) (fun _ t13 _ => items.length - (intOf t13).toNat)
          case atStart => exact ⟨0, by omega, rfl, Lib.hid (World.ownsRow_nil _ _ _ _), Lib.hid (Below.refl _ _)⟩
          case round =>
            obtain ⟨k, hk, rfl, HO, HBC⟩ := hrel
            have HB5 := Lib.hid (HB3.out.trans (HBC.out.mono HB3.out.size))
            have HB6 := Lib.hid (HB1.out.trans (HB5.out.mono HB1.out.size))
            have k0' : (0 : Int) ≤ k := by omega
            have e1 : IntKind.i64.wrap ((k : Int) + 1) = (k : Int) + 1 := IntWalk.i64_in _ (by omega)
            by_cases hlt : k < items.length
            · have k1 : (k : Int) < items.length := by omega
              obtain ⟨ad, rfl, q0, q1⟩ := itm_at (HRI.out _ HB6.out) hlt
              have hpl := HIS.out _ (List.getElem_mem hlt)
              have hwr := item_what HOI.out hlt
              have hcho := fun d h => choice_ok HOI.out HOC.out hlt (d := d) h
              have htk := outP_take hlt p ch
              have hdo := HDO.out items[k]
              have hol := outP_length (items.take k) p ch
              rw [List.length_take] at hol
              generalize items[k].path = path at *
              generalize items[k].what = what at *
              generalize outP (items.take k) p ch = out at *
              by_cases hw1 : what = 1
              · rw [if_pos hw1] at htk
                have b1 : (what == 1) = true := by rw [hw1]; rfl
                have HT := Lib.hid htk
                clear htk hdo hw1 hol hcho
                go_wp2_with (fail)
                go_roundw
                case rel => exact ⟨k + 1, by omega, by go_num, by rw [HT.out]; exact HO, HBC⟩
                case measure => simp [intOf]; omega
              · rw [if_neg hw1] at htk
                have b1 : (what == 1) = false := beq_eq_false_iff_ne.2 hw1
                have HT := Lib.hid htk
                have hdo2 := fun W h => hdo W h hpl (by omega) hwr.2 (fun e => (hcho 4 e).2.2.2 rfl)
                have HD := Lib.hid hdo2
                generalize actP what (progP p.merge path) p (lookC ch path) = act at *
                have HPF := Lib.hid (show wr.heap[w.heap.size]? = some (.cells #[.slice A0 n0 c0, .slice A1 n1 c1, .slice A2 p.merge.length c2, .int .i64 p.prefer, .int .i64 p.force, .bool p.batch, .bool fast] 26 (0, 0)) from (HB5.out.block _ HLT1.out).trans HP1.out)
                have HIP := Lib.hid q0
                have HIT := Lib.hid (pair_cells q0 q1)
                clear htk hdo hdo2 hw1 hcho
                go_wp2_with (fail)
                refine wp_region_move_quiet_rest (v0 := u12) 124 13 (by kernel_rfl) (by kernel_rfl) rfl rfl (fun _ _ _ h => h) (Or.inl ⟨by rfl, ?_⟩) ?_
                · intro w0
                  go_simp
                simp only [List.take, List.drop, Act.put, List.setIfInBounds_toArray, List.set_cons_succ, List.set_cons_zero]
                repeat first
                  | (go_big_quiet_want; refine quiet_load_row 26 _ rfl _ rfl _ _ _ _ HPF.out Tryd.underlying26 rfl HSZ.out ?_; simp only [Act.put, List.setIfInBounds_toArray, List.set_cons_succ, List.set_cons_zero]; go_big_quiet_on)
                  | (go_big_quiet_want; refine quiet_load_at 38 _ rfl _ rfl _ _ HIT.out Tryd.underlying38 rfl HSI.out ?_; simp only [Act.put, List.setIfInBounds_toArray, List.set_cons_succ, List.set_cons_zero]; go_big_quiet_on)
                  | (go_big_quiet_want; refine quiet_load_cell 9 _ rfl _ rfl _ _ HIP.out Tryd.underlying9 rfl ?_; simp only [Act.put, List.setIfInBounds_toArray, List.set_cons_succ, List.set_cons_zero]; go_big_quiet_on)
                  | go_big_quiet_step ((intro hW; go_at_call 17; rw [← HPE.out]; exact Ret.quiet hW (HD.out _ (HB6.out.trans (hW.mono HB6.out.size)))))
                refine wpQuiet_nil ?_
                intro W2 hW2
                have HB7 := Lib.hid (HBC.out.trans (hW2.mono HBC.out.size))
                have HO7 := Lib.hid (own_below HO.out hW2)
                clear hW2 HO HBC
                show wpAny _ _ _ _ (2 + 1) _ _ _
                refine wpAny_ready (rs := [14]) (by kernel_rfl) (by simp) ?_
                refine AllReady.cons rfl (fun K hK => ?_) AllReady.nil
                go_simp
                refine hK _ _ ?_
                clear hK K
                refine wpAny_ready (rs := [15]) (by kernel_rfl) (by simp) ?_
                refine AllReady.cons rfl (fun K hK => ?_) AllReady.nil
                simp only [List.getElem_toArray, List.getElem_cons_succ, List.getElem_cons_zero]
                rw [if_pos (by rfl)]
                refine wp_append_lies _ _ _ 27 rfl w3.heap.size 42 i0 _ 2 24 Tryd.underlying27 HI0.out hz0 hz1 hz2 rfl (by decide) _ _ _ rfl (HO7.out.alloc _) ⟨W2.heap.size, 0, none⟩ 1 1 (chcV ⟨path, act⟩) rfl rfl (laid_chc _ _ _) (chcV_oneCell _) (by decide) ?c3 ?c4 ?c5 _ rfl ?_
                case c3 => unfold maxLen; omega
                case c4 => omega
                case c5 => have := HB7.out.size; simp; omega
                intro g5 cap5 w5 hown5 hg5 hl5 hlt5
                have hb5 : Below w3.heap.size w3 w5 := (HB7.out.alloc HB7.out.size _).grown hg5 (by have := HB7.out.size; simp; omega) (fun k hk => (HO7.out.lt k hk).1)
                have hown6 : w5.ownsRow w3.heap.size 42 2 (.slice (some ⟨g5, 0, none⟩) (out.length + 1) cap5) (outP (items.take (k + 1)) p ch).length (rowsE chcV (outP (items.take (k + 1)) p ch)) := by
                  rw [HT.out, rowsE_append, rowsE_one, List.length_append, List.length_singleton]; exact hown5
                have HO5 := Lib.hid hown6
                have HB8 := Lib.hid hb5
                clear hown5 hown6 hg5 hl5 hb5 HO7 HB7
                refine hK _ _ ?_
                clear hK K
                refine wpAny_ready (rs := [16]) (by kernel_rfl) (by simp) ?_
                refine AllReady.cons rfl (fun K hK => ?_) AllReady.nil
                go_simp
                refine hK _ _ ?_
                clear hK K
                refine wpAny_done (by kernel_rfl) ?_ _
                go_wp2_with (fail)
                go_roundw
                case rel => exact ⟨k + 1, by omega, by go_num, HO5, HB8⟩
                case measure => simp [intOf]; omega
            · obtain rfl : k = items.length := by omega
              have k1 : decide ((items.length : Int) < (items.length : Int)) = false := by rw [decide_eq_false_iff_not]; omega
              have HF := Lib.hid (show wr.ownsRow w.heap.size 42 2 u12 (outP items p ch).length (rowsE chcV (outP items p ch)) by
                have := HO.out
                rw [List.take_of_length_le (Nat.le_refl _)] at this
                exact own_base this (HB1.out.trans (HB3.out.mono HB1.out.size)).size)
              clear HO
              go_wp2_with (fail)
              go_ret3
              exact ⟨_, by rw [HEO.out]; rfl, by rw [HEO.out]; exact HF.out, HB6.out⟩
end Go.Proofs.YtjhjepkmcbjgoaaDoor
end

/- What the laws of plan lean on that ask for the document's answer. -/
section
namespace Go.Proofs.YtjhjepkmcbjgoaaDoor
end Go.Proofs.YtjhjepkmcbjgoaaDoor
end
