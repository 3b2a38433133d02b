/- glob.parts, glob.Match. -/
import Derived.Test.YtgppfcaghjbjmaaDoorGlob6
import Derived.Test.YtgppfcaghjbjmaaDoorNameFns
namespace Go.Proofs.YtgppfcaghjbjmaaDoor
open Go.RowKit Go.Maps Plain

@[go_sem] theorem run_store_fn {P : Program} {w : World} {a : Addr} {m : Mode} (fn : Fn) (first captured : Array Value) : (store a (.func fn first captured) m).run P w = stored P w a (.func fn first captured) m := run_store P w a _ m rfl

set_option maxHeartbeats 1000000 in
theorem parts_any (p n : List (List UInt8)) (Ap An : Option Addr) (cp cn : Nat) (w : World) (hT : Tabs w)
    (hp : Reads w 1 Ap p.length (strs p)) (hn : Reads w 1 An n.length (strs n)) (hpl : p.length ≤ 65536) (hnl : n.length ≤ 65536)
    (hpo : ∀ x ∈ p, Lib.validD x = true ∧ wfP x = true ∧ x.length ≤ 65536) (hno : ∀ x ∈ n, Lib.validD x = true ∧ x.length ≤ 65536) :
    Calls Tryd.prog 20 #[.slice Ap p.length cp, .slice An n.length cn] w (Ret w (.bool (partsP p n))) := by
  have hd := fun bp bn bs bd bm hbm W hS => down_any w p n Ap An cp cn bp bn bs bd bm hT hbm hp hn hpl hnl hpo hno _ 0 0 W (Nat.le_refl _) (Nat.zero_le _) (Nat.zero_le _) hS
  have HD := Lib.hid hd
  have hmf : ∀ fn first cap W, (Instr.makeFunc fn first cap).run Tryd.prog W = .ok (.func fn first cap) W := fun _ _ _ _ => rfl
  have hmm : ∀ W : World, (Instr.makeMap 53 none).run Tryd.prog W = .ok (.map (some W.heap.size)) (W.alloc (.map #[] 0)) := fun _ => rfl
  clear hd hT hp hn hpl hnl hpo hno
  go_enter Tryd.func20, Tryd.ntmps20
  go_wp2_with (fail)
  generalize hW : ((((w.alloc (Obj.cells #[Value.slice Ap p.length cp] 41)).alloc (Obj.cells #[Value.slice An n.length cn] 41)).alloc (Obj.map #[] 0)).alloc (Obj.cells #[Value.map (some (w.heap.size + 1 + 1))] 53)).alloc _ = W
  have hmade := MapIs.made ((w.alloc (Obj.cells #[Value.slice Ap p.length cp] 41)).alloc (Obj.cells #[Value.slice An n.length cn] 41)) Tryd.prog 55
  have hb2 := fun o1 o2 => ((Below.refl _ (((w.alloc (Obj.cells #[Value.slice Ap p.length cp] 41)).alloc (Obj.cells #[Value.slice An n.length cn] 41)).alloc (Obj.map #[] 0))).alloc (Nat.le_refl _) o1).alloc (by simp) o2
  have hS : DS w p n Ap An cp cn w.heap.size (w.heap.size + 1) (w.heap.size + 1 + 1 + 1) (w.heap.size + 1 + 1 + 1 + 1) (w.heap.size + 1 + 1) W := by
    refine ⟨?_, ?_, ?_, ?_, ?_, 0, (fun _ => none), ?_, fun i j h => (by cases h), fun x v h => (by cases h)⟩
    · rw [← hW]; exact (((((Below.refl _ w).alloc (Nat.le_refl _) _).alloc (by simp) _).alloc (by simp; omega) _).alloc (by simp; omega) _).alloc (by simp; omega) _
    · rw [← hW]; simp [go_sem]
    · rw [← hW]; simp [go_sem]
    · rw [← hW]; simp [go_sem]
    · rw [← hW]; simp [go_sem]
    · rw [← hW]
      have := fun o2 => hmade.below (hb2 (Obj.cells #[Value.map (some (w.heap.size + 1 + 1))] 53) o2)
      simpa using this _
  refine (HD.out _ _ _ _ _ (by omega) W hS).mono ?_
  rintro e w1 ⟨rfl, hS1⟩
  have HB := Lib.hid hS1.below
  clear hS1 hS hW hmade hb2
  go_wp2_with (fail)
  go_ret
  exact ⟨by simp, HB.out⟩

theorem matchG_off {p s : List UInt8} (h : okG p = false ∨ pathOK s = false) : matchG p s = false := by
  unfold matchG
  rcases h with h | h
  · rw [h]; rfl
  · rw [h, Bool.and_false]; rfl
theorem matchG_slash {p s : List UInt8} (h1 : okG p = true) (h2 : pathOK s = true) (h3 : p ≠ [42, 42]) (h4 : 47 ∈ p) : matchG p s = partsP (parts p) (parts s) := by
  unfold matchG; rw [h1, h2, if_neg h3, if_pos h4]; rfl
theorem matchG_base {p s : List UInt8} (h1 : okG p = true) (h2 : pathOK s = true) (h3 : p ≠ [42, 42]) (h4 : 47 ∉ p) : matchG p s = partP p (baseM s) := by
  unfold matchG; rw [h1, h2, if_neg h3, if_neg h4]; rfl
theorem sum_mem {l : List (List UInt8)} {x : List UInt8} (h : x ∈ l) : x.length ≤ (joinS l).length := by
  rw [join_length]
  have : ∀ {l : List (List UInt8)}, x ∈ l → x.length ≤ (l.map List.length).sum := by
    intro l
    induction l with
    | nil => intro h; cases h
    | cons y l ih =>
      intro h
      rw [List.map_cons, List.sum_cons]
      rcases List.mem_cons.1 h with rfl | h
      · omega
      · have := ih h; omega
  have := this h
  omega
theorem part_len {s x : List UInt8} (h : x ∈ parts s) : x.length ≤ s.length := by
  have := sum_mem h
  rwa [join_parts] at this
theorem name_valid {x : List UInt8} (h : nameOK x = true) : Lib.validD x = true := by
  unfold nameOK at h
  simp only [Bool.and_eq_true] at h
  exact h.1.1.2
theorem contains_slash (p : List UInt8) : Lib.indexByte p 47 = -1 ↔ 47 ∉ p := by
  constructor
  · intro h hm
    obtain ⟨q, r, rfl, hq⟩ := first_c (c := 47) p hm
    rw [ib_first q r hq] at h
    omega
  · exact ib_none

set_option maxHeartbeats 2000000 in
theorem Match_all (p s : List UInt8) (m : Int) (w : World) (hL : Laid w m) :
    Calls Tryd.prog 9 #[.string ⟨p.toArray⟩, .string ⟨s.toArray⟩] w (Ret w (.bool (matchG p s))) := by
  have hC := Check_all p w hL.tabs
  have HL := Lib.hid (fun W (h : Below w.heap.size w W) => hL.below h)
  have HPP := Lib.hid (fun W (h : Laid W m) => Path_any s W h.tabs)
  cases hok : okG p with
  | false =>
    have HR := Lib.hid (matchG_off (s := s) (.inl hok))
    have he : (((checkP 400 p).2 : Int) != 0) = true := by
      unfold okG at hok
      rw [beq_eq_false_iff_ne] at hok
      rw [bne_iff_ne]; omega
    generalize (checkP 400 p).2 = e at *
    generalize (checkP 400 p).1 = k at *
    have HC := Lib.hid hC
    clear hC hok hL HL HPP
    go_enter Tryd.func9, Tryd.ntmps9
    go_wp2_with (fail)
    refine HC.out.mono ?_
    rintro e w1 ⟨rfl, hw1⟩
    go_wp2_with (fail)
    go_ret
    exact ⟨by rw [HR.out]; rfl, hw1⟩
  | true =>
    have hck := okG_ok hok
    have he : (checkP 400 p).2 = 0 := okG_iff.1 hok
    rw [he] at hC
    generalize (checkP 400 p).1 = k at *
    have HC := Lib.hid hC
    clear hC he
    cases hpa : pathOK s with
    | false =>
      have HR := Lib.hid (matchG_off (p := p) (.inr hpa))
      rw [hpa] at HPP
      clear hok hL hpa hck
      go_enter Tryd.func9, Tryd.ntmps9
      go_wp2_with (fail)
      refine HC.out.mono ?_
      rintro e w1 ⟨rfl, hw1⟩
      go_wp2_with (fail)
      refine (HPP.out _ (HL.out _ hw1)).mono ?_
      rintro e w2 ⟨rfl, hw2⟩
      go_wp2_with (fail)
      go_ret
      exact ⟨by rw [HR.out]; rfl, hw1.trans (hw2.mono hw1.size)⟩
    | true =>
      rw [hpa] at HPP
      by_cases h2 : p = [42, 42]
      · subst h2
        have HR := Lib.hid (matchG_2stars hpa)
        clear hok hL hpa hck
        go_enter Tryd.func9, Tryd.ntmps9
        go_wp2_with (fail)
        refine HC.out.mono ?_
        rintro e w1 ⟨rfl, hw1⟩
        go_wp2_with (fail)
        refine (HPP.out _ (HL.out _ hw1)).mono ?_
        rintro e w2 ⟨rfl, hw2⟩
        go_wp2_with (fail)
        go_ret
        exact ⟨by rw [HR.out]; rfl, hw1.trans (hw2.mono hw1.size)⟩
      have h2b : (p == [42, 42]) = false := by rw [beq_eq_false_iff_ne]; exact h2
      have hcon := fun W => Tryd.strings_Contains_one ⟨p.toArray⟩ 47 W
      obtain ⟨hne, h400, hv, hparts⟩ := hck
      have hs400 := pathOK_len hpa
      have hnames := fun x (hx : x ∈ parts s) => name_valid (pathOK_mem hpa hx)
      by_cases h47 : 47 ∈ p
      · have hct : decide (0 ≤ Lib.indexByte p 47) = true := by
          rw [decide_eq_true_eq]
          obtain ⟨q, r, e, hq⟩ := first_c (c := 47) p h47
          rw [e, ib_first q r hq]; omega
        rw [show (ByteArray.mk p.toArray).data.toList = p from rfl, hct] at hcon
        have HR := Lib.hid (matchG_slash hok hpa h2 h47)
        have HCON := Lib.hid hcon
        have HSP := Lib.hid (fun W (h : Laid W m) => strSplit_any p 47 m W (by omega) h.max)
        have hns := fun W (h : Laid W m) => Split_any s m W h
        rw [show splitM s = parts s by unfold splitM; rw [hpa]; rfl] at hns
        have HNS := Lib.hid hns
        have hpl1 : (parts p).length ≤ 65536 := by rw [parts_length]; have := List.count_le_length (a := (47 : UInt8)) (l := p); omega
        have hpl2 : (parts s).length ≤ 65536 := by rw [parts_length]; have := List.count_le_length (a := (47 : UInt8)) (l := s); omega
        have HPA := Lib.hid (fun A c B d W (hT : Tabs W) h1 h2 => parts_any (parts p) (parts s) A B c d W hT h1 h2 hpl1 hpl2 (fun x hx => ⟨(hparts x hx).1, (hparts x hx).2, by have := part_len hx; omega⟩) (fun x hx => ⟨hnames x hx, by have := part_len hx; omega⟩))
        have HPE := Lib.hid (show parts p = cutAt 47 [] p from rfl)
        clear hok hL hpa hcon hct hns hnames hparts hv hpl1 hpl2 h47 h2
        rw [← HPE.out] at HSP
        generalize parts p = lp at *
        generalize parts s = ls at *
        go_enter Tryd.func9, Tryd.ntmps9
        go_wp2_with (fail)
        refine HC.out.mono ?_
        rintro e w1 ⟨rfl, hw1⟩
        go_wp2_with (fail)
        refine (HPP.out _ (HL.out _ hw1)).mono ?_
        rintro e w2 ⟨rfl, hw2⟩
        have hB2 := hw1.trans (hw2.mono hw1.size)
        clear hw1 hw2
        go_wp2_with (fail)
        refine (HCON.out _).mono ?_
        rintro e w2b ⟨rfl, rfl⟩
        go_wp2_with (fail)
        refine (HSP.out _ (HL.out _ hB2)).mono ?_
        rintro e w3 ⟨A, c, rfl, hc, hm, hr, hw3, hA0⟩
        have hB3 := hB2.trans (hw3.mono hB2.size)
        clear hw3 hB2
        go_wp2_with (fail)
        refine (HNS.out _ (HL.out _ hB3)).mono ?_
        rintro e w4 ⟨B, d, rfl, hd, hm2, hr2, hw4, hA02⟩
        have hB4 := hB3.trans (hw4.mono hB3.size)
        have hr4 := hr.below hw4
        clear hw4 hB3 hr
        go_wp2_with (fail)
        refine (HPA.out A c B d w4 (HL.out _ hB4).tabs hr4 hr2).mono ?_
        rintro e w5 ⟨rfl, hw5⟩
        go_wp2_with (fail)
        go_ret
        exact ⟨by rw [HR.out]; rfl, hB4.trans (hw5.mono hB4.size)⟩
      · have hct : decide (0 ≤ Lib.indexByte p 47) = false := by
          rw [decide_eq_false_iff_not, ib_none h47]; omega
        rw [show (ByteArray.mk p.toArray).data.toList = p from rfl, hct] at hcon
        have hpp : Lib.validD p = true ∧ wfP p = true := hparts p (by rw [parts_none p h47]; simp)
        have hbv : Lib.validD (baseM s) = true ∧ (baseM s).length ≤ s.length := by
          rw [base_last hpa]
          have hm : (parts s).getLast (parts_ne s) ∈ parts s := List.getLast_mem _
          exact ⟨hnames _ hm, part_len hm⟩
        have HR := Lib.hid (matchG_base hok hpa h2 h47)
        have HCON := Lib.hid hcon
        have HBS := Lib.hid (fun W (h : Laid W m) => Base_any s W h.tabs (by omega))
        have HPT := Lib.hid (fun W (h : Laid W m) => part_any p (baseM s) W h.tabs hpp.1 hpp.2 hbv.1 (by omega) (by omega))
        clear hok hL hpa hcon hct hnames hparts hv hpp hbv h47 h2
        generalize baseM s = bs at *
        go_enter Tryd.func9, Tryd.ntmps9
        go_wp2_with (fail)
        refine HC.out.mono ?_
        rintro e w1 ⟨rfl, hw1⟩
        go_wp2_with (fail)
        refine (HPP.out _ (HL.out _ hw1)).mono ?_
        rintro e w2 ⟨rfl, hw2⟩
        have hB2 := hw1.trans (hw2.mono hw1.size)
        clear hw1 hw2
        go_wp2_with (fail)
        refine (HCON.out _).mono ?_
        rintro e w2b ⟨rfl, rfl⟩
        go_wp2_with (fail)
        refine (HBS.out _ (HL.out _ hB2)).mono ?_
        rintro e w3 ⟨rfl, hw3⟩
        have hB3 := hB2.trans (hw3.mono hB2.size)
        clear hw3 hB2
        go_wp2_with (fail)
        refine (HPT.out _ (HL.out _ hB3)).mono ?_
        rintro e w4 ⟨rfl, hw4⟩
        go_wp2_with (fail)
        go_ret
        exact ⟨by rw [HR.out]; rfl, hB3.trans (hw4.mono hB3.size)⟩
theorem Match_any (p s : List UInt8) (m : Int) (w : World) (hL : Laid w m) (_ : p.length ≤ 9223372036854775807) (_ : s.length ≤ 9223372036854775807) :
    Calls Tryd.prog 9 #[.string ⟨p.toArray⟩, .string ⟨s.toArray⟩] w (Ret w (.bool (matchG p s))) := Match_all p s m w hL
end Go.Proofs.YtgppfcaghjbjmaaDoor
