/- Texts joined: NameFns, Glob7, Plan1, QuietTail, Loads, Plan2, StrMap. -/
import Derived.Test.YtjhjepkmcbjgoaaDoorBPlanBase17
import Derived.Test.YtjhjepkmcbjgoaaDoorBPlanBase16
import Derived.Test.YtjhjepkmcbjgoaaDoorBPlanBase14
import Derived.Laws.Rows
import Derived.Test.YtjhjepkmcbjgoaaDoorBPlanBase11
import Derived.StillTail
import Derived.Deep.QuietTactic
import Derived.Deep.MidRow
set_option linter.unusedSimpArgs false
set_option linter.unusedVariables false

/- name.Split, Parent, Base. -/
section
namespace Go.Proofs.YtjhjepkmcbjgoaaDoor
open Go.RowKit Plain

/-- What a call may lean on. -/
structure Laid (w : World) (m : Int) : Prop where
  tabs : Tabs w
  max : w.cell? ⟨0, 0, none⟩ = some (.int .i64 m)
theorem Laid.below {w w' : World} {m : Int} (h : Laid w m) (hb : Below w.heap.size w w') : Laid w' m :=
  ⟨Utf8Tabs_below h.tabs hb, (hb.cell (p := ⟨0, 0, none⟩) (World.block_lt_of_cell? _ _ h.max)).trans h.max⟩

def splitM (s : List UInt8) : List (List UInt8) := if pathOK s then parts s else []

theorem Split_any (s : List UInt8) (m : Int) (w : World) (hL : Laid w m) :
    Calls Tryd.prog 27 #[.string ⟨s.toArray⟩] w (StrsOut w (splitM s)) := by
  have hp := Path_any s w hL.tabs
  unfold splitM
  cases hok : pathOK s with
  | false =>
    rw [hok] at hp
    have HP := Lib.hid hp
    clear hp hok
    go_enter Tryd.func27, Tryd.ntmps27
    go_wp2_with (fail)
    refine HP.out.mono ?_
    rintro e w1 ⟨rfl, hw1⟩
    go_wp2_with (fail)
    go_ret
    exact ⟨none, 0, rfl, Nat.le_refl _, Nat.zero_le _, Reads.nil _ _ _, hw1, fun _ => rfl⟩
  | true =>
    rw [hok] at hp
    have HP := Lib.hid hp
    have hs := pathOK_len hok
    have HS := Lib.hid (fun W (hb : Below w.heap.size w W) => strSplit_any s 47 m W (by omega) (hL.below hb).max)
    clear hp hok
    rw [if_pos rfl]
    show Calls _ _ _ _ (StrsOut w (cutAt 47 [] s))
    generalize cutAt 47 [] s = l at *
    go_enter Tryd.func27, Tryd.ntmps27
    go_wp2_with (fail)
    refine HP.out.mono ?_
    rintro e w1 ⟨rfl, hw1⟩
    go_wp2_with (fail)
    refine (HS.out _ hw1).mono ?_
    rintro e w2 ⟨A, c, rfl, hc, hm, hr, hw2, h0⟩
    go_wp2_with (fail)
    go_ret
    exact ⟨A, c, rfl, hc, hm, hr, hw1.trans (hw2.mono hw1.size), h0⟩

theorem lib_none {s : List UInt8} (h : 47 ∉ s) : Lib.lastIndexByte ⟨s.toArray⟩ 47 = -1 := by
  rcases Lib.lastIndexByte_spec ⟨s.toArray⟩ 47 with ⟨e, _⟩ | ⟨i, hi, _, hc, _⟩
  · exact e
  · exfalso
    have hi' : i < s.length := by simpa [ByteArray.size] using hi
    have : (s.toArray[i]!) = s[i] := by simp [hi']
    simp only [this] at hc
    exact h (by have e : s[i] = 47 := UInt8.toNat.inj (by simpa using Int.ofNat.inj hc); rw [← e]; exact List.getElem_mem hi')
theorem lib_last (p q : List UInt8) (h : 47 ∉ q) : Lib.lastIndexByte ⟨(p ++ 47 :: q).toArray⟩ 47 = p.length := by
  have hget : ∀ j, j < (p ++ 47 :: q).length → ((p ++ 47 :: q).toArray[j]!) = (p ++ 47 :: q).getD j 0 := fun j hj => by simp [List.getD]; rfl
  have hsz : (ByteArray.mk (p ++ 47 :: q).toArray).size = (p ++ 47 :: q).length := by simp [ByteArray.size]
  have hgp : (p ++ 47 :: q).getD p.length 0 = 47 := by simp [List.getD]
  have hpl : p.length < (p ++ 47 :: q).length := by simp
  rcases Lib.lastIndexByte_spec ⟨(p ++ 47 :: q).toArray⟩ 47 with ⟨_, hn⟩ | ⟨i, hi, e, hc, hn⟩
  · exfalso
    have := hn p.length (by rw [hsz]; exact hpl)
    simp only [hget _ hpl, hgp] at this
    exact this rfl
  · rw [e]
    rw [hsz] at hi hn
    simp only [hget _ hi] at hc
    rcases Nat.lt_trichotomy i p.length with hlt | heq | hgt
    · exfalso
      have := hn p.length hlt hpl
      simp only [hget _ hpl, hgp] at this
      exact this rfl
    · rw [heq]
    · exfalso
      have e2 : (p ++ 47 :: q).getD i 0 = 47 := UInt8.toNat.inj (by simpa using Int.ofNat.inj hc)
      obtain ⟨k, rfl⟩ : ∃ k, i = p.length + 1 + k := ⟨i - p.length - 1, by omega⟩
      have e3 : (p ++ 47 :: q).getD (p.length + 1 + k) 0 = q.getD k 0 := by
        simp only [List.getD]
        rw [List.getElem?_append_right (by omega), show p.length + 1 + k - p.length = k + 1 by omega]; rfl
      rw [e3] at e2
      have hk : k < q.length := by simp at hi; omega
      exact h (by rw [← e2]; simp [List.getD, hk])
theorem LastIndexS_any (s : List UInt8) (w : World) (hs : s.length ≤ 9223372036854775807) :
    Calls Tryd.prog 70 #[.string ⟨s.toArray⟩, .int .u8 47] w (Ret w (.int .i64 (Lib.lastIndexByte ⟨s.toArray⟩ 47))) := by
  have hsz : (ByteArray.mk s.toArray).size = s.length := by simp [ByteArray.size]
  have HL := Lib.hid (show Lib.lastIndexByte ⟨s.toArray⟩ 47 = Lib.lastIdx ⟨s.toArray⟩ 47 s.length by unfold Lib.lastIndexByte; rw [hsz])
  clear hsz
  go_enter Tryd.func70, Tryd.ntmps70
  go_wp2_with (fail)
  go_loopw [5] (fun t4 W => ∃ k : Nat, k ≤ s.length ∧ t4 = .int .i64 ((k : Int) - 1) ∧ Hid (Lib.lastIdx ⟨s.toArray⟩ 47 s.length = Lib.lastIdx ⟨s.toArray⟩ 47 k) ∧ Hid (Below w.heap.size w W)) (fun t4 _ => (intOf t4 + 1).toNat)
  case atStart => exact ⟨s.length, by omega, rfl, Lib.hid rfl, Lib.hid (Below.refl _ _)⟩
  case round =>
    obtain ⟨k, hk, rfl, HI, HB⟩ := hrel
    by_cases h0 : k = 0
    · subst h0
      go_wp2_with (fail)
      go_ret
      exact ⟨by rw [HL.out, HI.out]; rfl, HB.out⟩
    · obtain ⟨j, rfl⟩ : ∃ j, k = j + 1 := ⟨k - 1, by omega⟩
      have e1 : ((j + 1 : Nat) : Int) - 1 = j := by omega
      rw [e1]
      have i0 : (0 : Int) ≤ j := by omega
      have i1 : (j : Int) < s.length := by omega
      have hg : (s.toArray[j]!) = s[j]'(by omega) := by simp [show j < s.length by omega]
      have hn1 : ((j : Int)).toNat = j := by omega
      generalize hx : s[j]'(by omega) = x at *
      by_cases h47 : (x.toNat : Int) = 47
      · have HR := Lib.hid (HI.out.trans (Lib.lastIdx_hit ⟨s.toArray⟩ 47 j (by simp only [hg]; exact h47)))
        have hB : ((x.toNat : Int) == 47) = true := by simpa using h47
        clear h47 hg h0 e1
        go_wp2_with (fail)
        go_ret
        exact ⟨by rw [HL.out, HR.out]; rfl, HB.out⟩
      · have HR := Lib.hid (HI.out.trans (Lib.lastIdx_miss ⟨s.toArray⟩ 47 j (by simp only [hg]; exact h47)))
        have hB : ((x.toNat : Int) == 47) = false := by simpa using h47
        clear h47 hg h0 e1
        go_wp2_with (fail)
        go_roundw
        case rel => exact ⟨j, by omega, by go_num, HR, HB⟩
        case measure => simp [intOf]
theorem LastIndex_any (s : List UInt8) (w : World) (hs : s.length ≤ 9223372036854775807) :
    Calls Tryd.prog 48 #[.string ⟨s.toArray⟩, .int .u8 47] w (Ret w (.int .i64 (Lib.lastIndexByte ⟨s.toArray⟩ 47))) := by
  have HC := Lib.hid (LastIndexS_any s w hs)
  go_enter Tryd.func48, Tryd.ntmps48
  go_wp2_with (fail)
  refine HC.out.mono ?_
  rintro e w1 ⟨rfl, hw1⟩
  go_wp2_with (fail)
  go_ret
  exact ⟨rfl, hw1⟩


theorem Base_any (s : List UInt8) (w : World) (hT : Tabs w) (hs : s.length ≤ 9223372036854775807) :
    Calls Tryd.prog 29 #[.string ⟨s.toArray⟩] w (Ret w (.string ⟨(baseM s).toArray⟩)) := by
  have hp := Path_any s w hT
  have hl := fun W => LastIndex_any s W hs
  cases hok : pathOK s with
  | false =>
    rw [hok] at hp
    have HB := Lib.hid (show baseM s = [] by unfold baseM; rw [hok]; rfl)
    have HP := Lib.hid hp
    clear hp hok hl
    go_enter Tryd.func29, Tryd.ntmps29
    go_wp2_with (fail)
    refine HP.out.mono ?_
    rintro e w1 ⟨rfl, hw1⟩
    go_wp2_with (fail)
    go_ret
    exact ⟨by rw [HB.out]; rfl, hw1⟩
  | true =>
    rw [hok] at hp
    have HP := Lib.hid hp
    clear hp
    by_cases h47 : 47 ∈ s
    · obtain ⟨p, q, rfl, hq⟩ := last_cut h47
      rw [lib_last p q hq] at hl
      have HB := Lib.hid (base_cut p q hq hok)
      have hd : (p ++ 47 :: q).drop (p.length + 1) = q := by rw [← List.drop_drop, List.drop_left' rfl]; rfl
      have hd2 : q.take ((p ++ 47 :: q).length - (p.length + 1)) = q := List.take_of_length_le (by simp; omega)
      have hpl : p.length + 1 ≤ (p ++ 47 :: q).length := by simp
      clear hok h47
      generalize p ++ 47 :: q = s at *
      have HL := Lib.hid hl
      clear hl
      go_enter Tryd.func29, Tryd.ntmps29
      go_wp2_with (fail)
      refine HP.out.mono ?_
      rintro e w1 ⟨rfl, hw1⟩
      go_wp2_with (fail)
      refine (HL.out _).mono ?_
      rintro e w2 ⟨rfl, hw2⟩
      go_wp2_with (fail)
      go_ret
      exact ⟨by rw [HB.out]; rfl, hw1.trans (hw2.mono hw1.size)⟩
    · rw [lib_none h47] at hl
      have HB := Lib.hid (base_none h47 hok)
      have HL := Lib.hid hl
      clear hl hok h47
      go_enter Tryd.func29, Tryd.ntmps29
      go_wp2_with (fail)
      refine HP.out.mono ?_
      rintro e w1 ⟨rfl, hw1⟩
      go_wp2_with (fail)
      refine (HL.out _).mono ?_
      rintro e w2 ⟨rfl, hw2⟩
      go_wp2_with (fail)
      go_ret
      exact ⟨by rw [HB.out]; simp, hw1.trans (hw2.mono hw1.size)⟩

theorem HasPrefix_any (s p : List UInt8) (w : World) :
    Calls Tryd.prog 44 #[.string ⟨s.toArray⟩, .string ⟨p.toArray⟩] w (Ret w (.bool (p.isPrefixOf s))) :=
  (Tryd.strings_HasPrefix ⟨s.toArray⟩ ⟨p.toArray⟩ w).mono fun _ _ ⟨he, hw⟩ => ⟨he, hw ▸ Below.refl _ _⟩
end Go.Proofs.YtjhjepkmcbjgoaaDoor
end

/- glob.parts, glob.Match. -/
section
namespace Go.Proofs.YtjhjepkmcbjgoaaDoor
open Go.RowKit Go.Maps Plain

@[go_sem] theorem run_store_fn {P : Program} {w : World} {a : Addr} {m : Mode} (fn : Fn) (first captured : Array Value) : (store a (.func fn first captured) m).run P w = stored P w a (.func fn first captured) m := run_store P w a _ m rfl

set_option maxHeartbeats 1000000 in
theorem parts_any (p n : List (List UInt8)) (Ap An : Option Addr) (cp cn : Nat) (w : World) (hT : Tabs w)
    (hp : Reads w 1 Ap p.length (strs p)) (hn : Reads w 1 An n.length (strs n)) (hpl : p.length ≤ 65536) (hnl : n.length ≤ 65536)
    (hpo : ∀ x ∈ p, Lib.validD x = true ∧ wfP x = true ∧ x.length ≤ 65536) (hno : ∀ x ∈ n, Lib.validD x = true ∧ x.length ≤ 65536) :
    Calls Tryd.prog 25 #[.slice Ap p.length cp, .slice An n.length cn] w (Ret w (.bool (partsP p n))) := by
  have hd := fun bp bn bs bd bm hbm W hS => down_any w p n Ap An cp cn bp bn bs bd bm hT hbm hp hn hpl hnl hpo hno _ 0 0 W (Nat.le_refl _) (Nat.zero_le _) (Nat.zero_le _) hS
  have HD := Lib.hid hd
  have hmf : ∀ fn first cap W, (Instr.makeFunc fn first cap).run Tryd.prog W = .ok (.func fn first cap) W := fun _ _ _ _ => rfl
  have hmm : ∀ W : World, (Instr.makeMap 75 none).run Tryd.prog W = .ok (.map (some W.heap.size)) (W.alloc (.map #[] 0)) := fun _ => rfl
  clear hd hT hp hn hpl hnl hpo hno
  go_enter Tryd.func25, Tryd.ntmps25
  go_wp2_with (fail)
  generalize hW : ((((w.alloc (Obj.cells #[Value.slice Ap p.length cp] 60)).alloc (Obj.cells #[Value.slice An n.length cn] 60)).alloc (Obj.map #[] 0)).alloc (Obj.cells #[Value.map (some (w.heap.size + 1 + 1))] 75)).alloc _ = W
  have hmade := MapIs.made ((w.alloc (Obj.cells #[Value.slice Ap p.length cp] 60)).alloc (Obj.cells #[Value.slice An n.length cn] 60)) Tryd.prog 77
  have hb2 := fun o1 o2 => ((Below.refl _ (((w.alloc (Obj.cells #[Value.slice Ap p.length cp] 60)).alloc (Obj.cells #[Value.slice An n.length cn] 60)).alloc (Obj.map #[] 0))).alloc (Nat.le_refl _) o1).alloc (by simp) o2
  have hS : DS w p n Ap An cp cn w.heap.size (w.heap.size + 1) (w.heap.size + 1 + 1 + 1) (w.heap.size + 1 + 1 + 1 + 1) (w.heap.size + 1 + 1) W := by
    refine ⟨?_, ?_, ?_, ?_, ?_, 0, (fun _ => none), ?_, fun i j h => (by cases h), fun x v h => (by cases h)⟩
    · rw [← hW]; exact (((((Below.refl _ w).alloc (Nat.le_refl _) _).alloc (by simp) _).alloc (by simp; omega) _).alloc (by simp; omega) _).alloc (by simp; omega) _
    · rw [← hW]; simp [go_sem]
    · rw [← hW]; simp [go_sem]
    · rw [← hW]; simp [go_sem]
    · rw [← hW]; simp [go_sem]
    · rw [← hW]
      have := fun o2 => hmade.below (hb2 (Obj.cells #[Value.map (some (w.heap.size + 1 + 1))] 75) o2)
      simpa using this _
  refine (HD.out _ _ _ _ _ (by omega) W hS).mono ?_
  rintro e w1 ⟨rfl, hS1⟩
  have HB := Lib.hid hS1.below
  clear hS1 hS hW hmade hb2
  go_wp2_with (fail)
  go_ret
  exact ⟨by simp, HB.out⟩

theorem matchG_off {p s : List UInt8} (h : okG p = false ∨ pathOK s = false) : matchG p s = false := by
  unfold matchG
  rcases h with h | h
  · rw [h]; rfl
  · rw [h, Bool.and_false]; rfl
theorem matchG_slash {p s : List UInt8} (h1 : okG p = true) (h2 : pathOK s = true) (h3 : p ≠ [42, 42]) (h4 : 47 ∈ p) : matchG p s = partsP (parts p) (parts s) := by
  unfold matchG; rw [h1, h2, if_neg h3, if_pos h4]; rfl
theorem matchG_base {p s : List UInt8} (h1 : okG p = true) (h2 : pathOK s = true) (h3 : p ≠ [42, 42]) (h4 : 47 ∉ p) : matchG p s = partP p (baseM s) := by
  unfold matchG; rw [h1, h2, if_neg h3, if_neg h4]; rfl
theorem sum_mem {l : List (List UInt8)} {x : List UInt8} (h : x ∈ l) : x.length ≤ (joinS l).length := by
  rw [join_length]
  have : ∀ {l : List (List UInt8)}, x ∈ l → x.length ≤ (l.map List.length).sum := by
    intro l
    induction l with
    | nil => intro h; cases h
    | cons y l ih =>
      intro h
      rw [List.map_cons, List.sum_cons]
      rcases List.mem_cons.1 h with rfl | h
      · omega
      · have := ih h; omega
  have := this h
  omega
theorem part_len {s x : List UInt8} (h : x ∈ parts s) : x.length ≤ s.length := by
  have := sum_mem h
  rwa [join_parts] at this
theorem name_valid {x : List UInt8} (h : nameOK x = true) : Lib.validD x = true := by
  unfold nameOK at h
  simp only [Bool.and_eq_true] at h
  exact h.1.1.2
theorem contains_slash (p : List UInt8) : Lib.indexByte p 47 = -1 ↔ 47 ∉ p := by
  constructor
  · intro h hm
    obtain ⟨q, r, rfl, hq⟩ := first_c (c := 47) p hm
    rw [ib_first q r hq] at h
    omega
  · exact ib_none

set_option maxHeartbeats 2000000 in
theorem Match_all (p s : List UInt8) (m : Int) (w : World) (hL : Laid w m) :
    Calls Tryd.prog 18 #[.string ⟨p.toArray⟩, .string ⟨s.toArray⟩] w (Ret w (.bool (matchG p s))) := by
  have hC := Check_all p w hL.tabs
  have HL := Lib.hid (fun W (h : Below w.heap.size w W) => hL.below h)
  have HPP := Lib.hid (fun W (h : Laid W m) => Path_any s W h.tabs)
  cases hok : okG p with
  | false =>
    have HR := Lib.hid (matchG_off (s := s) (.inl hok))
    have he : (((checkP 400 p).2 : Int) != 0) = true := by
      unfold okG at hok
      rw [beq_eq_false_iff_ne] at hok
      rw [bne_iff_ne]; omega
    generalize (checkP 400 p).2 = e at *
    generalize (checkP 400 p).1 = k at *
    have HC := Lib.hid hC
    clear hC hok hL HL HPP
    go_enter Tryd.func18, Tryd.ntmps18
    go_wp2_with (fail)
    refine HC.out.mono ?_
    rintro e w1 ⟨rfl, hw1⟩
    go_wp2_with (fail)
    go_ret
    exact ⟨by rw [HR.out]; rfl, hw1⟩
  | true =>
    have hck := okG_ok hok
    have he : (checkP 400 p).2 = 0 := okG_iff.1 hok
    rw [he] at hC
    generalize (checkP 400 p).1 = k at *
    have HC := Lib.hid hC
    clear hC he
    cases hpa : pathOK s with
    | false =>
      have HR := Lib.hid (matchG_off (p := p) (.inr hpa))
      rw [hpa] at HPP
      clear hok hL hpa hck
      go_enter Tryd.func18, Tryd.ntmps18
      go_wp2_with (fail)
      refine HC.out.mono ?_
      rintro e w1 ⟨rfl, hw1⟩
      go_wp2_with (fail)
      refine (HPP.out _ (HL.out _ hw1)).mono ?_
      rintro e w2 ⟨rfl, hw2⟩
      go_wp2_with (fail)
      go_ret
      exact ⟨by rw [HR.out]; rfl, hw1.trans (hw2.mono hw1.size)⟩
    | true =>
      rw [hpa] at HPP
      by_cases h2 : p = [42, 42]
      · subst h2
        have HR := Lib.hid (matchG_2stars hpa)
        clear hok hL hpa hck
        go_enter Tryd.func18, Tryd.ntmps18
        go_wp2_with (fail)
        refine HC.out.mono ?_
        rintro e w1 ⟨rfl, hw1⟩
        go_wp2_with (fail)
        refine (HPP.out _ (HL.out _ hw1)).mono ?_
        rintro e w2 ⟨rfl, hw2⟩
        go_wp2_with (fail)
        go_ret
        exact ⟨by rw [HR.out]; rfl, hw1.trans (hw2.mono hw1.size)⟩
      have h2b : (p == [42, 42]) = false := by rw [beq_eq_false_iff_ne]; exact h2
      have hcon := fun W => Tryd.strings_Contains_one ⟨p.toArray⟩ 47 W
      obtain ⟨hne, h400, hv, hparts⟩ := hck
      have hs400 := pathOK_len hpa
      have hnames := fun x (hx : x ∈ parts s) => name_valid (pathOK_mem hpa hx)
      by_cases h47 : 47 ∈ p
      · have hct : decide (0 ≤ Lib.indexByte p 47) = true := by
          rw [decide_eq_true_eq]
          obtain ⟨q, r, e, hq⟩ := first_c (c := 47) p h47
          rw [e, ib_first q r hq]; omega
        rw [show (ByteArray.mk p.toArray).data.toList = p from rfl, hct] at hcon
        have HR := Lib.hid (matchG_slash hok hpa h2 h47)
        have HCON := Lib.hid hcon
        have HSP := Lib.hid (fun W (h : Laid W m) => strSplit_any p 47 m W (by omega) h.max)
        have hns := fun W (h : Laid W m) => Split_any s m W h
        rw [show splitM s = parts s by unfold splitM; rw [hpa]; rfl] at hns
        have HNS := Lib.hid hns
        have hpl1 : (parts p).length ≤ 65536 := by rw [parts_length]; have := List.count_le_length (a := (47 : UInt8)) (l := p); omega
        have hpl2 : (parts s).length ≤ 65536 := by rw [parts_length]; have := List.count_le_length (a := (47 : UInt8)) (l := s); omega
        have HPA := Lib.hid (fun A c B d W (hT : Tabs W) h1 h2 => parts_any (parts p) (parts s) A B c d W hT h1 h2 hpl1 hpl2 (fun x hx => ⟨(hparts x hx).1, (hparts x hx).2, by have := part_len hx; omega⟩) (fun x hx => ⟨hnames x hx, by have := part_len hx; omega⟩))
        have HPE := Lib.hid (show parts p = cutAt 47 [] p from rfl)
        clear hok hL hpa hcon hct hns hnames hparts hv hpl1 hpl2 h47 h2
        rw [← HPE.out] at HSP
        generalize parts p = lp at *
        generalize parts s = ls at *
        go_enter Tryd.func18, Tryd.ntmps18
        go_wp2_with (fail)
        refine HC.out.mono ?_
        rintro e w1 ⟨rfl, hw1⟩
        go_wp2_with (fail)
        refine (HPP.out _ (HL.out _ hw1)).mono ?_
        rintro e w2 ⟨rfl, hw2⟩
        have hB2 := hw1.trans (hw2.mono hw1.size)
        clear hw1 hw2
        go_wp2_with (fail)
        refine (HCON.out _).mono ?_
        rintro e w2b ⟨rfl, rfl⟩
        go_wp2_with (fail)
        refine (HSP.out _ (HL.out _ hB2)).mono ?_
        rintro e w3 ⟨A, c, rfl, hc, hm, hr, hw3, hA0⟩
        have hB3 := hB2.trans (hw3.mono hB2.size)
        clear hw3 hB2
        go_wp2_with (fail)
        refine (HNS.out _ (HL.out _ hB3)).mono ?_
        rintro e w4 ⟨B, d, rfl, hd, hm2, hr2, hw4, hA02⟩
        have hB4 := hB3.trans (hw4.mono hB3.size)
        have hr4 := hr.below hw4
        clear hw4 hB3 hr
        go_wp2_with (fail)
        refine (HPA.out A c B d w4 (HL.out _ hB4).tabs hr4 hr2).mono ?_
        rintro e w5 ⟨rfl, hw5⟩
        go_wp2_with (fail)
        go_ret
        exact ⟨by rw [HR.out]; rfl, hB4.trans (hw5.mono hB4.size)⟩
      · have hct : decide (0 ≤ Lib.indexByte p 47) = false := by
          rw [decide_eq_false_iff_not, ib_none h47]; omega
        rw [show (ByteArray.mk p.toArray).data.toList = p from rfl, hct] at hcon
        have hpp : Lib.validD p = true ∧ wfP p = true := hparts p (by rw [parts_none p h47]; simp)
        have hbv : Lib.validD (baseM s) = true ∧ (baseM s).length ≤ s.length := by
          rw [base_last hpa]
          have hm : (parts s).getLast (parts_ne s) ∈ parts s := List.getLast_mem _
          exact ⟨hnames _ hm, part_len hm⟩
        have HR := Lib.hid (matchG_base hok hpa h2 h47)
        have HCON := Lib.hid hcon
        have HBS := Lib.hid (fun W (h : Laid W m) => Base_any s W h.tabs (by omega))
        have HPT := Lib.hid (fun W (h : Laid W m) => part_any p (baseM s) W h.tabs hpp.1 hpp.2 hbv.1 (by omega) (by omega))
        clear hok hL hpa hcon hct hnames hparts hv hpp hbv h47 h2
        generalize baseM s = bs at *
        go_enter Tryd.func18, Tryd.ntmps18
        go_wp2_with (fail)
        refine HC.out.mono ?_
        rintro e w1 ⟨rfl, hw1⟩
        go_wp2_with (fail)
        refine (HPP.out _ (HL.out _ hw1)).mono ?_
        rintro e w2 ⟨rfl, hw2⟩
        have hB2 := hw1.trans (hw2.mono hw1.size)
        clear hw1 hw2
        go_wp2_with (fail)
        refine (HCON.out _).mono ?_
        rintro e w2b ⟨rfl, rfl⟩
        go_wp2_with (fail)
        refine (HBS.out _ (HL.out _ hB2)).mono ?_
        rintro e w3 ⟨rfl, hw3⟩
        have hB3 := hB2.trans (hw3.mono hB2.size)
        clear hw3 hB2
        go_wp2_with (fail)
        refine (HPT.out _ (HL.out _ hB3)).mono ?_
        rintro e w4 ⟨rfl, hw4⟩
        go_wp2_with (fail)
        go_ret
        exact ⟨by rw [HR.out]; rfl, hB3.trans (hw4.mono hB3.size)⟩
theorem Match_any (p s : List UInt8) (m : Int) (w : World) (hL : Laid w m) (_ : p.length ≤ 9223372036854775807) (_ : s.length ≤ 9223372036854775807) :
    Calls Tryd.prog 18 #[.string ⟨p.toArray⟩, .string ⟨s.toArray⟩] w (Ret w (.bool (matchG p s))) := Match_all p s m w hL
end Go.Proofs.YtjhjepkmcbjgoaaDoor
end

/- plan.Program, plan.side, plan.first. -/
section
set_option linter.unusedVariables false
namespace Go.Proofs.YtjhjepkmcbjgoaaDoor
open Go.RowKit Plain

theorem pair_at {w : World} {A : Option Addr} {l : List (List Value)} (h : IsRows w 2 A l) {k : Nat} (hk : k < l.length) {a b : Value} (e : l[k] = [a, b]) :
    ∃ ad, A = some ad ∧ w.cell? (ad.add (k * 2)) = some a ∧ w.cell? ⟨(ad.add (k * 2)).block, (ad.add (k * 2)).off + 1, none⟩ = some b := by
  obtain ⟨ad, hA, h1, h2⟩ := h.at_ hk
  exact ⟨ad, hA, h1 _ (by rw [e]; rfl), h2 0 _ (by rw [e]; rfl)⟩
theorem prg_at {w : World} {A : Option Addr} {l : List Prg} (h : IsRows w 2 A (l.map prgV)) {k : Nat} (hk : k < l.length) :
    ∃ ad, A = some ad ∧ w.cell? (ad.add (k * 2)) = some (.string ⟨l[k].name.toArray⟩) ∧ w.cell? ⟨(ad.add (k * 2)).block, (ad.add (k * 2)).off + 1, none⟩ = some (.string ⟨l[k].pat.toArray⟩) :=
  pair_at h (by simpa using hk) (by simp [prgV])
theorem itm_at {w : World} {A : Option Addr} {l : List Itm} (h : IsRows w 2 A (l.map itmV)) {k : Nat} (hk : k < l.length) :
    ∃ ad, A = some ad ∧ w.cell? (ad.add (k * 2)) = some (.string ⟨l[k].path.toArray⟩) ∧ w.cell? ⟨(ad.add (k * 2)).block, (ad.add (k * 2)).off + 1, none⟩ = some (.int .i64 l[k].what) :=
  pair_at h (by simpa using hk) (by simp [itmV])
theorem chc_at {w : World} {A : Option Addr} {l : List Chc} (h : IsRows w 2 A (l.map chcV)) {k : Nat} (hk : k < l.length) :
    ∃ ad, A = some ad ∧ w.cell? (ad.add (k * 2)) = some (.string ⟨l[k].path.toArray⟩) ∧ w.cell? ⟨(ad.add (k * 2)).block, (ad.add (k * 2)).off + 1, none⟩ = some (.int .i64 l[k].act) :=
  pair_at h (by simpa using hk) (by simp [chcV])

set_option maxHeartbeats 1000000 in
theorem Program_any (A0 : Option Addr) (n0 c0 : Nat) (A1 : Option Addr) (n1 c1 : Nat) (A2 : Option Addr) (c2 : Nat) (p : Prf) (fast : Bool) (s : List UInt8) (m : Int) (w : World) (hL : Laid w m) (hR : IsRows w 2 A2 (p.merge.map prgV)) (hlen : p.merge.length ≤ 4294967296) :
    Calls Tryd.prog 12 #[profV A0 n0 c0 A1 n1 c1 A2 c2 p fast, .string ⟨s.toArray⟩] w (Ret w (.string ⟨(progP p.merge s).toArray⟩)) := by
  unfold profV
  have HM := Lib.hid (fun q W (h : Below w.heap.size w W) => Match_all q s m W (hL.below h))
  have HRR := Lib.hid (fun W (h : Below w.heap.size w W) => hR.below h)
  obtain ⟨merge, prefer, force, batch⟩ := p
  simp only at hlen HRR ⊢
  obtain ⟨res, hres⟩ : ∃ r, progP merge s = r := ⟨_, rfl⟩
  have HRES := Lib.hid (show progF [] (merge.drop 0) s = res from hres)
  rw [hres]
  clear hR hres hL
  go_enter Tryd.func12, Tryd.ntmps12
  go_wp2_with (fail)
  go_loopw [5, 11] (fun t5 t11 W => ∃ (i : Nat) (a : List UInt8), i ≤ merge.length ∧ t5 = .string ⟨a.toArray⟩ ∧ t11 = .int .i64 i ∧ Hid (progF a (merge.drop i) s = res) ∧ Hid (Below w.heap.size w W)) (fun _ t11 _ => merge.length - (intOf t11).toNat)
  case atStart => exact ⟨0, [], by omega, rfl, rfl, HRES, Lib.hid ((Below.refl _ _).alloc (Nat.le_refl _) _)⟩
  case round =>
    obtain ⟨i, a, hi, rfl, rfl, HE, HB⟩ := hrel
    have i0 : (0 : Int) ≤ i := by omega
    have e1 : IntKind.i64.wrap ((i : Int) + 1) = (i : Int) + 1 := IntWalk.i64_in _ (by omega)
    by_cases hlt : i < merge.length
    · have i1 : (i : Int) < merge.length := by omega
      obtain ⟨ad, rfl, q0, q1⟩ := prg_at (HRR.out _ HB.out) hlt
      have hB1 := HB.out.alloc HB.out.size (Obj.cells #[Value.string ⟨merge[i].name.toArray⟩, Value.string ⟨merge[i].pat.toArray⟩] 30)
      have hM := HM.out merge[i].pat _ hB1
      have HB1 := Lib.hid hB1
      have hat := progF_at hlt a s
      rw [HE.out] at hat
      clear hB1
      generalize merge[i] = ru at *
      cases hm : matchG ru.pat s with
      | true =>
        rw [hm] at hM hat
        have HM2 := Lib.hid hM
        have HE2 := Lib.hid hat.symm
        clear hM hat hm
        go_wp2_with (fail)
        refine HM2.out.mono ?_
        rintro e w2 ⟨rfl, hw2⟩
        have b0 : w2.cell? ⟨wr.heap.size, 0, none⟩ = some (.string ⟨ru.name.toArray⟩) := (hw2.cell (p := ⟨wr.heap.size, 0, none⟩) (by simp)).trans (by simp [go_sem])
        have HB2 := Lib.hid (HB1.out.trans (hw2.mono HB1.out.size))
        clear hw2 q0 q1
        go_wp2_with (fail)
        go_roundw
        case rel => exact ⟨i + 1, ru.name, by omega, rfl, by go_num, HE2, HB2⟩
        case measure => simp [intOf]; omega
      | false =>
        rw [hm] at hM hat
        have HM2 := Lib.hid hM
        have HE2 := Lib.hid hat.symm
        clear hM hat hm
        go_wp2_with (fail)
        refine HM2.out.mono ?_
        rintro e w2 ⟨rfl, hw2⟩
        have HB2 := Lib.hid (HB1.out.trans (hw2.mono HB1.out.size))
        clear hw2 q0 q1
        go_wp2_with (fail)
        go_roundw
        case rel => exact ⟨i + 1, a, by omega, rfl, by go_num, HE2, HB2⟩
        case measure => simp [intOf]; omega
    · obtain rfl : i = merge.length := by omega
      have HE2 := Lib.hid (show res = a by rw [← HE.out]; exact progF_end _ _ _)
      go_wp2_with (fail)
      go_ret
      exact ⟨by rw [HE2.out]; rfl, HB.out⟩

set_option maxHeartbeats 1000000 in
theorem side_any (a : Bool) (n : Int) (w : World) :
    Calls Tryd.prog 21 #[.bool a, .int .i64 n] w (Ret w (.agg #[.bool (a && (n == 1 || n == 2)), .int .i64 n])) := by
  have HSZ := Lib.hid (show (Tryd.prog.info? 54).map (·.size) = some 2 by kernel_rfl)
  go_enter Tryd.func21, Tryd.ntmps21
  cases a with
  | false =>
    go_wp2_with (fail)
    refine bodyPost_ret (results_cell_row rfl _ _ w.heap.size 54 _ _ _ rfl (heap_alloc_new w _) Tryd.underlying54 rfl HSZ.out) rfl ?_
    exact ⟨rfl, (Below.refl _ _).alloc (Nat.le_refl _) _⟩
  | true =>
    cases h1 : n == 1 with
    | true =>
      go_wp2_with (fail)
      refine bodyPost_ret (results_cell_row rfl _ _ w.heap.size 54 _ _ _ rfl (heap_alloc_new w _) Tryd.underlying54 rfl HSZ.out) rfl ?_
      exact ⟨rfl, (Below.refl _ _).alloc (Nat.le_refl _) _⟩
    | false =>
      go_wp2_with (fail)
      refine bodyPost_ret (results_cell_row rfl _ _ w.heap.size 54 _ _ _ rfl (heap_alloc_new w _) Tryd.underlying54 rfl HSZ.out) rfl ?_
      exact ⟨rfl, (Below.refl _ _).alloc (Nat.le_refl _) _⟩
def firstR (l : List (Bool × Int)) : Int := match l.find? (·.1) with
  | some r => r.2
  | none => 0
def rulV (x : Bool × Int) : List Value := [.bool x.1, .int .i64 x.2]
theorem firstR_at {l : List (Bool × Int)} {i : Nat} (h : i < l.length) : firstR (l.drop i) = if l[i].1 = true then l[i].2 else firstR (l.drop (i + 1)) := by
  rw [List.drop_eq_getElem_cons h]
  unfold firstR
  rw [List.find?_cons]
  cases h1 : l[i].1 with
  | true => simp
  | false => simp
theorem firstR_end (l : List (Bool × Int)) : firstR (l.drop l.length) = 0 := by rw [List.drop_length]; rfl

set_option maxHeartbeats 1000000 in
theorem first_any (A : Option Addr) (c : Nat) (l : List (Bool × Int)) (w : World) (hR : IsRows w 2 A (l.map rulV)) (hlen : l.length ≤ 4294967296) :
    Calls Tryd.prog 20 #[.slice A l.length c] w (Ret w (.int .i64 (firstR l))) := by
  have HRR := Lib.hid (fun W (h : Below w.heap.size w W) => hR.below h)
  obtain ⟨res, hres⟩ : ∃ r, firstR l = r := ⟨_, rfl⟩
  have HRES := Lib.hid (show firstR (l.drop 0) = res from hres)
  rw [hres]
  clear hR hres
  go_enter Tryd.func20, Tryd.ntmps20
  go_wp2_with (fail)
  go_loopw [7] (fun t7 W => ∃ (i : Nat), i ≤ l.length ∧ t7 = .int .i64 i ∧ Hid (firstR (l.drop i) = res) ∧ Hid (Below w.heap.size w W)) (fun t7 _ => l.length - (intOf t7).toNat)
  case atStart => exact ⟨0, by omega, rfl, HRES, Lib.hid (Below.refl _ _)⟩
  case round =>
    obtain ⟨i, hi, rfl, HE, HB⟩ := hrel
    have i0 : (0 : Int) ≤ i := by omega
    have e1 : IntKind.i64.wrap ((i : Int) + 1) = (i : Int) + 1 := IntWalk.i64_in _ (by omega)
    by_cases hlt : i < l.length
    · have i1 : (i : Int) < l.length := by omega
      obtain ⟨ad, rfl, q0, q1⟩ := pair_at (a := .bool l[i].1) (b := .int .i64 l[i].2) (HRR.out _ HB.out) (k := i) (by simpa using hlt) (by simp [rulV])
      have HB1 := Lib.hid (HB.out.alloc HB.out.size (Obj.cells #[Value.bool l[i].1, Value.int .i64 l[i].2] 54))
      have hat := firstR_at hlt
      rw [HE.out] at hat
      generalize l[i].1 = b at *
      generalize l[i].2 = n at *
      cases b with
      | true =>
        have HE2 := Lib.hid hat
        clear hat
        go_wp2_with (fail)
        go_ret
        exact ⟨by rw [HE2.out]; rfl, HB1.out⟩
      | false =>
        have HE2 := Lib.hid hat.symm
        clear hat
        go_wp2_with (fail)
        go_roundw
        case rel => exact ⟨i + 1, by omega, by go_num, HE2, HB1⟩
        case measure => simp [intOf]; omega
    · obtain rfl : i = l.length := by omega
      have HE2 := Lib.hid (show res = 0 by rw [← HE.out]; exact firstR_end _)
      go_wp2_with (fail)
      go_ret
      exact ⟨by rw [HE2.out]; rfl, HB.out⟩
end Go.Proofs.YtjhjepkmcbjgoaaDoor
end

/- A region that draws its order: a head whose operations each yield one value in every world of a class, and a tail that comes behind it in one order alone. -/
section
namespace Go.Proofs.YtjhjepkmcbjgoaaDoor
open Go.RowKit

section
variable {P : Program} {ops : Array Oper} {md : Region.Mode} {C : World → Prop}
def wpAnyQL (P : Program) (md : Region.Mode) (ops : Array Oper) (C : World → Prop) (n : Nat) (L : Array Bool → Act → Prop) : Nat → Array Bool → Act → Prop
  | 0, listed, a => L listed a
  | f + 1, listed, a => Region.ready md ops listed ≠ [] ∧ ∀ i ∈ Region.ready md ops listed, i < n ∧ qOp P ops C i (wpAnyQL P md ops C n L f (listed.setIfInBounds i true)) a

theorem wpAny_of_qhead {n g : Nat} {L : Array Bool → Act → Prop} {Q' : Exit → Act → World → Prop} (hL : ∀ listed a w, C w → L listed a → wpAny P md ops Q' g listed a w) :
    ∀ (f : Nat) (listed : Array Bool) (a : Act) (w : World), C w → wpAnyQL P md ops C n L f listed a → wpAny P md ops Q' (f + g) listed a w
  | 0, listed, a, w, hw, h => by rw [Nat.zero_add]; exact hL _ _ _ hw h
  | f + 1, listed, a, w, hw, h => by
    rw [show f + 1 + g = (f + g) + 1 by omega]
    exact ⟨fun h0 => absurd h0 h.1, fun i hi => wpOp_of_qOp hw (fun a' w' hw' h' => wpAny_of_qhead hL f _ a' w' hw' h') (h.2 i hi).2⟩

theorem wpAnyQL_first {n i : Nat} {oi : Oper} {v : Value} {L : Array Bool → Act → Prop} (hi : ops[i]? = some oi) (hsel : ∀ (j : Nat) (o : Oper) cs b, ops[j]? = some o → o.op ≠ .select cs b)
    (hs : Region.sinkB md ops n = true) (hc : Region.chainB md ops n = true) (hn : n < ops.size) (hin : i < n)
    (hdone : ∀ listed a, L listed a → ∀ j ∈ Region.ready md ops listed, n ≤ j) :
    ∀ (f : Nat) (listed : Array Bool) (a : Act), HeadInv md ops n listed →
      (∀ j oj, ops[j]? = some oj → j ≠ i → listed.getD j true = false → (∀ e ∈ oj.after, Region.binds md e = true → e.on ≠ i) → oi.apart ops oj = true) →
      i ∈ Region.ready md ops listed → YieldsIn P ops C oi v a →
      wpAnyQL P md ops C n L f (listed.setIfInBounds i true) (a.put oi.dst v) → wpAnyQL P md ops C n L (f + 1) listed a := by
  intro f
  induction f with
  | zero =>
    intro listed a inv _ hr hy H
    have hun := (mem_ready.1 hr).1
    refine ⟨fun h => (by rw [h] at hr; cases hr), fun j hj => ?_⟩
    have hjn : j < n := by
      rcases Nat.lt_or_ge j n with h | h
      · exact h
      · exact absurd hj (tail_waits hs hc hn inv _ i rfl hin hun j h)
    refine ⟨hjn, ?_⟩
    by_cases hji : j = i
    · subst hji; exact hy.qOp hi H
    · have := hdone _ _ H j (ready_mono hj hji)
      omega
  | succ f ih =>
    intro listed a inv hfree hr hy H
    have hun := (mem_ready.1 hr).1
    refine ⟨fun h => (by rw [h] at hr; cases hr), fun j hj => ?_⟩
    have hjn : j < n := by
      rcases Nat.lt_or_ge j n with h | h
      · exact h
      · exact absurd hj (tail_waits hs hc hn inv _ i rfl hin hun j h)
    refine ⟨hjn, ?_⟩
    by_cases hji : j = i
    · subst hji; exact hy.qOp hi H
    · have h1 := (H.2 j (ready_mono hj hji)).2
      obtain ⟨hjun, oj, hoj, hall⟩ := mem_ready.1 hj
      have hnot : ∀ e ∈ oj.after, Region.binds md e = true → e.on ≠ i := fun e he hb heq => by
        have h1 := hall e he hb
        rw [heq, getD_both hun] at h1
        cases h1
      have h2 := qOp_put hoj (hfree j oj hoj hji hjun hnot) (fun cs b => hsel i oi cs b hi) (fun cs b => hsel j oj cs b hoj) hy h1
      have hfree' : ∀ k ok, ops[k]? = some ok → k ≠ i → (listed.setIfInBounds j true).getD k true = false →
          (∀ e ∈ ok.after, Region.binds md e = true → e.on ≠ i) → oi.apart ops ok = true := fun k ok hk hki hun hno => by
        refine hfree k ok hk hki ?_ hno
        by_cases hjk : j = k
        · subst hjk; exact hjun
        · rw [getD_set_ne true hjk] at hun; exact hun
      refine qOp_mono (fun a' h3 => ih (listed.setIfInBounds j true) a' (inv.set hj hjn) hfree' (ready_mono hr (Ne.symm hji)) h3.1 ?_) h2
      rw [Array.setIfInBounds_comm _ _ hji]
      exact h3.2

theorem wpAnyQL_lex {n g : Nat} {Lq : Act → Prop} (hsel : Region.noSelect ops = true) (hs : Region.sinkB md ops n = true) (hc : Region.chainB md ops n = true) (hn : n < ops.size) :
    ∀ (l : List Oper) (k : Nat) (listed : Array Bool) (a : Act), (∀ j, j < l.length → l[j]? = ops[k + j]?) → k + l.length = n → HeadInv md ops n listed →
    Region.lexHead md ops g l.length k listed = true → wpQuiet P ops C Lq l a →
    wpAnyQL P md ops C n (fun listed' a' => Region.seqB md ops g n listed' = true ∧ Lq a') l.length listed a
  | [], k, listed, a, _, hk, _, hB, h => by
    have : k = n := by simpa using hk
    subst this
    exact ⟨by simpa [Region.lexHead] using hB, h⟩
  | o :: l, k, listed, a, hl, hk, inv, hB, h => by
    have h0 : ops[k]? = some o := by simpa using (hl 0 (by simp)).symm
    simp only [List.length_cons, Region.lexHead, Bool.and_eq_true] at hB
    obtain ⟨⟨hr, hf⟩, hB'⟩ := hB
    have hkn : k < n := by simp only [List.length_cons] at hk; omega
    have hr' : k ∈ Region.ready md ops listed := by simpa using hr
    have hst : qOp P ops C k (wpQuiet P ops C Lq l) a := by unfold qOp; simp only [h0]; exact h
    obtain ⟨v, hy, hK⟩ := yieldsIn_of_qOp h0 hst
    exact wpAnyQL_first h0 (Region.noSelect_spec hsel) hs hc hn hkn (fun listed' a' hL => seqB_ready hL.1) l.length listed a inv (Region.free_spec h0 hf) hr' hy
      (wpAnyQL_lex hsel hs hc hn l (k + 1) _ _ (fun j hj => by have := hl (j + 1) (by simp; omega); simpa [Nat.add_assoc, Nat.add_comm 1 j] using this) (by simp only [List.length_cons] at hk; omega) (inv.set hr' hkn) hB' hK)
end

/-- The head: loads, and calls that keep old memory; the tail: whatever it does. -/
theorem wp_region_quiet_tail {P : Program} {id : Nat} {Q : Exit → Act → World → Prop} {a : Act} {w : World} {l : List Oper} (n : Nat) (hm : P.follows .mixedOrders = true) (hB : Region.lexTailB .any l.toArray n = true)
    (h : wpQuiet P l.toArray (fun W => Below w.heap.size w W) (fun a' => ∀ W, Below w.heap.size w W → wpList P l.toArray Q (l.drop n) a' W) (l.take n) a) : (Code.region id l.toArray true).wp P Q a w := by
  simp only [Region.lexTailB, Bool.and_eq_true, decide_eq_true_eq] at hB
  obtain ⟨⟨⟨⟨hsel, hn⟩, hs⟩, hc⟩, hlex⟩ := hB
  have hn' : n < l.length := by simpa using hn
  have htl : (l.take n).length = n := by simp; omega
  have hdl : (l.drop n).length = l.toArray.size - n := by simp
  have inv0 : HeadInv .any l.toArray n (Array.replicate l.toArray.size false) :=
    ⟨by simp, fun j oj _ hl => (by rw [getD_replicate_false] at hl; cases hl), fun t _ ht => getD_in (by simpa using ht) (getD_replicate_false _ _)⟩
  have H := wpAnyQL_lex (md := .any) (g := l.toArray.size - n) hsel hs hc hn (l.take n) 0 _ a (fun j hj => by
    have hj' : j < n := by rw [htl] at hj; exact hj
    simp [hj']) (by simpa using htl) inv0 (by rw [htl]; exact hlex) h
  refine wp_region_any hm ?_
  have := wpAny_of_qhead (Q' := Q) (g := l.toArray.size - n) (fun listed a' W hW hL => by
    have := wpAny_of_seq (md := .any) (Q' := Q) (l.drop n) n listed a' W (fun j => by simp [List.getElem?_drop]) (by rw [hdl]; exact hL.1) (hL.2 W hW)
    rwa [hdl] at this) _ _ _ { w with drawn := w.drawn + 1 } ⟨rfl, rfl, rfl, Nat.le_refl _, fun _ _ => rfl⟩ H
  rw [htl, show n + (l.toArray.size - n) = l.toArray.size by omega] at this
  exact this
end Go.Proofs.YtjhjepkmcbjgoaaDoor
end

/- Loads of a struct, and of a cell, in a region that draws its order. -/
section
namespace Go.Proofs.YtjhjepkmcbjgoaaDoor
open Go.RowKit

/-- A load of a whole struct, and of one cell, in a region that draws its order, whose calls keep old memory. -/
theorem quiet_load_row {P : Program} {w : World} {o : Oper} {a : Act} {K : Act → Prop} (ty : TypeId) (x : Operand) (ho : o.op = .load ty x)
    (g : Nat) (hx : a.eval x = .pointer (some ⟨g, 0, none⟩)) (t : TypeId) (cs : Array Value) (fr : Nat × Nat) (d : TypeDesc) (hg : w.heap[g]? = some (.cells cs t fr))
    (hu : P.underlying ty = some d) (hd : (match d with | .struct _ | .array _ _ => true | _ => false) = true) (hi : (P.info? ty).map (·.size) = some cs.size)
    (h : K (a.put o.dst (.agg cs))) : o.quiet P a (fun W => Below w.heap.size w W) K := by
  refine ⟨.agg cs, fun W hW => ?_, h⟩
  have hgW : W.heap[g]? = some (.cells cs t fr) := by rw [hW.block g (Array.getElem?_eq_some_iff.1 hg).1]; exact hg
  unfold Oper.quietAt execOp
  simp only [ho, hx, Instr.loadAt, Instr.sureAddr, Sem.run_bind, Sem.run_pure, Result.andThen_ok, run_loadVar_row W g t ty cs fr d hgW hu hd hi]
  exact ⟨rfl, rfl⟩
theorem quiet_load_cell {P : Program} {w : World} {o : Oper} {a : Act} {K : Act → Prop} (ty : TypeId) (x : Operand) (ho : o.op = .load ty x)
    (p : Addr) (hx : a.eval x = .pointer (some p)) (v : Value) (d : TypeDesc) (hc : w.cell? p = some v)
    (hu : P.underlying ty = some d) (hd : (match d with | .struct _ | .array _ _ => true | _ => false) = false)
    (h : K (a.put o.dst v)) : o.quiet P a (fun W => Below w.heap.size w W) K := by
  refine ⟨v, fun W hW => ?_, h⟩
  have hcW : W.cell? p = some v := by rw [hW.cell (World.block_lt_of_cell? _ _ hc)]; exact hc
  have hagg : (isAgg ty).run P W = .ok false W := by
    unfold isAgg
    rw [Sem.run_bind, run_underlying hu W]
    cases d <;> simp_all
  unfold Oper.quietAt execOp
  simp only [ho, hx, Instr.loadAt, Instr.sureAddr, Sem.run_bind, Sem.run_pure, Result.andThen_ok, loadVar, hagg]
  simp [go_sem, hcW, Oper.quietUpon]
/-- A load of a part of a row. -/
theorem quiet_load_mid {P : Program} {w : World} {o : Oper} {a : Act} {K : Act → Prop} (ty : TypeId) (x : Operand) (ho : o.op = .load ty x)
    (b f : Nat) (hx : a.eval x = .pointer (some ⟨b, f, none⟩)) (cs : List Value) (d : TypeDesc) (hc : w.rangeAt b f cs) (hb : b < w.heap.size)
    (hu : P.underlying ty = some d) (hd : d.isRow = true) (hi : (P.info? ty).map (·.size) = some cs.length)
    (h : K (a.put o.dst (.agg cs.toArray))) : o.quiet P a (fun W => Below w.heap.size w W) K := by
  refine ⟨.agg cs.toArray, fun W hW => ?_, h⟩
  have hcW : W.rangeAt b f cs := fun j v hv => by rw [hW.cell hb]; exact hc j v hv
  unfold Oper.quietAt execOp
  simp only [ho, hx, Instr.loadAt, Instr.sureAddr, Sem.run_bind, Sem.run_pure, Result.andThen_ok, run_loadVar_mid W b f ty cs d hcW hu hd hi]
  exact ⟨rfl, rfl⟩
end Go.Proofs.YtjhjepkmcbjgoaaDoor
end

/- plan.does. -/
section
set_option linter.unusedVariables false
namespace Go.Proofs.YtjhjepkmcbjgoaaDoor
open Go.RowKit Plain

theorem add_zero' (b j : Nat) : (⟨b, 0, none⟩ : Addr).add j = ⟨b, j, none⟩ := by unfold Addr.add; split <;> simp_all
/-- a block of rows -/
theorem rows_block {α : Type} {enc : α → List Value} {n : Nat} (hm : ∀ x, (enc x).length = n) {w : World} {b : Nat} {t : TypeId} {m : Nat × Nat} {l : List α} (h : w.heap[b]? = some (.cells (rowsE enc l).toArray t m)) : IsRows w n (some ⟨b, 0, none⟩) (l.map enc) := by
  intro k hk
  have hk' : k < l.length := by simpa using hk
  refine ⟨_, rfl, fun j u hu => ?_⟩
  have e1 : (l.map enc)[k] = enc l[k] := by simp
  rw [e1] at hu
  have hj : j < n := by have := (List.getElem?_eq_some_iff.1 hu).1; rwa [hm] at this
  have h1 := rowsE_get hm l k hk' j hj
  rw [hu] at h1
  rw [add_zero']
  unfold World.cell?
  rw [h]
  simpa using h1

/-- what the rules of an item tell -/
theorem rules_act (is clash batch : Bool) (chosen what prefer force : Int) (prog : List UInt8) (p : Prf) (h1 : p.prefer = prefer) (h2 : p.force = force) (h3 : p.batch = batch) (h4 : clash = (what == 4)) :
    firstR [(is && (chosen != 4), chosen), (is, goes what), (true && (force == 1 || force == 2), force), (clash && !prog.isEmpty, 3), (clash && (prefer == 1 || prefer == 2), prefer), (clash, 0), (batch, goes what)] =
      actP what prog p (if is then some chosen else none) := by
  subst h1 h2 h3 h4
  unfold firstR actP
  cases is with
  | true =>
    by_cases h : chosen = 4
    · simp [h]
    · simp [h]
  | false =>
    by_cases hf : p.force = 1 ∨ p.force = 2
    · have hb : (p.force == 1 || p.force == 2) = true := by simpa using hf
      simp [hb, hf]
    · have hb : (p.force == 1 || p.force == 2) = false := by simpa using hf
      by_cases hw : what = 4
      · subst hw
        cases prog with
        | cons a q => simp [hb, hf]
        | nil =>
          by_cases hp : p.prefer = 1 ∨ p.prefer = 2
          · have hpb : (p.prefer == 1 || p.prefer == 2) = true := by simpa using hp
            simp [hb, hf, hpb, hp]
          · have hpb : (p.prefer == 1 || p.prefer == 2) = false := by simpa using hp
            simp [hb, hf, hpb, hp]
      · cases hbt : p.batch <;> simp [hb, hf, hw, hbt]

theorem first7 (b0 b1 b2 b3 b4 b5 b6 : Bool) (n0 n1 n2 n3 n4 n5 n6 : Int) (W : World) :
    Calls Tryd.prog 20 #[.slice (some ⟨W.heap.size, 0, none⟩) 7 7] (W.alloc (.cells #[.bool b0, .int .i64 n0, .bool b1, .int .i64 n1, .bool b2, .int .i64 n2, .bool b3, .int .i64 n3, .bool b4, .int .i64 n4, .bool b5, .int .i64 n5, .bool b6, .int .i64 n6] 54))
      (Ret (W.alloc (.cells #[.bool b0, .int .i64 n0, .bool b1, .int .i64 n1, .bool b2, .int .i64 n2, .bool b3, .int .i64 n3, .bool b4, .int .i64 n4, .bool b5, .int .i64 n5, .bool b6, .int .i64 n6] 54)) (.int .i64 (firstR [(b0, n0), (b1, n1), (b2, n2), (b3, n3), (b4, n4), (b5, n5), (b6, n6)]))) :=
  first_any (some ⟨W.heap.size, 0, none⟩) 7 [(b0, n0), (b1, n1), (b2, n2), (b3, n3), (b4, n4), (b5, n5), (b6, n6)] _ (rows_block (enc := rulV) (fun _ => rfl) (heap_alloc_new W _)) (by simp)

set_option maxRecDepth 100000 in
set_option maxHeartbeats 4000000 in
theorem does_any (x : Itm) (A0 : Option Addr) (n0 c0 : Nat) (A1 : Option Addr) (n1 c1 : Nat) (A2 : Option Addr) (c2 : Nat) (p : Prf) (fast : Bool) (chosen : Int) (is : Bool) (m : Int) (w : World) (hL : Laid w m) (hR : IsRows w 2 A2 (p.merge.map prgV)) (hlen : p.merge.length ≤ 4294967296) :
    Calls Tryd.prog 14 #[.agg #[.string ⟨x.path.toArray⟩, .int .i64 x.what], profV A0 n0 c0 A1 n1 c1 A2 c2 p fast, .int .i64 chosen, .bool is] w (Ret w (.int .i64 (actP x.what (progP p.merge x.path) p (if is then some chosen else none)))) := by
  have HPR := Lib.hid (fun W (h : Below w.heap.size w W) => Program_any A0 n0 c0 A1 n1 c1 A2 c2 p fast x.path m W (hL.below h) (hR.below h) hlen)
  have HACT := Lib.hid (fun clash h4 => rules_act is clash p.batch chosen x.what p.prefer p.force (progP p.merge x.path) p rfl rfl rfl h4)
  obtain ⟨path, what⟩ := x
  obtain ⟨merge, prefer, force, batch⟩ := p
  unfold profV at *
  simp only at HPR HACT ⊢
  have HSZ := Lib.hid (show (Tryd.prog.info? 26).map (·.size) = some 7 by kernel_rfl)
  generalize progP merge path = prog at *
  obtain ⟨res, hres⟩ : ∃ r, actP what prog { merge := merge, prefer := prefer, force := force, batch := batch } (if is = true then some chosen else none) = r := ⟨_, rfl⟩
  rw [hres] at HACT ⊢
  clear hL hR hres
  obtain ⟨w2, hw2⟩ : ∃ w2, (w.alloc (.cells #[.string ⟨path.toArray⟩, .int .i64 what] 38)).alloc (.cells #[.slice A0 n0 c0, .slice A1 n1 c1, .slice A2 merge.length c2, .int .i64 prefer, .int .i64 force, .bool batch, .bool fast] 26) = w2 := ⟨_, rfl⟩
  have HB2 := Lib.hid (show Below w.heap.size w w2 by rw [← hw2]; exact ((Below.refl _ _).alloc (Nat.le_refl _) _).alloc (by simp) _)
  have HI0 := Lib.hid (show w2.cell? ⟨w.heap.size, 0, none⟩ = some (.string ⟨path.toArray⟩) by rw [← hw2]; simp [go_sem])
  have hi1 : w2.cell? ⟨w.heap.size, 1, none⟩ = some (.int .i64 what) := by rw [← hw2]; simp [go_sem]
  have HP := Lib.hid (show w2.heap[w.heap.size + 1]? = some (.cells #[.slice A0 n0 c0, .slice A1 n1 c1, .slice A2 merge.length c2, .int .i64 prefer, .int .i64 force, .bool batch, .bool fast] 26 (0, 0)) by rw [← hw2]; exact heap_alloc2_new _ _ _)
  have HP3 := Lib.hid (show w2.cell? ⟨w.heap.size + 1, 3, none⟩ = some (.int .i64 prefer) by rw [← hw2]; simp [go_sem])
  have HP4 := Lib.hid (show w2.cell? ⟨w.heap.size + 1, 4, none⟩ = some (.int .i64 force) by rw [← hw2]; simp [go_sem])
  have HP5 := Lib.hid (show w2.cell? ⟨w.heap.size + 1, 5, none⟩ = some (.bool batch) by rw [← hw2]; simp [go_sem])
  have HW2 := Lib.hid hw2
  clear hw2
  by_cases h4 : what = 4
  · subst h4
    have HA := Lib.hid (HACT.out true rfl)
    clear HACT
    cases is with
    | true =>
      go_enter Tryd.func14, Tryd.ntmps14
      go_wp2_with (fail)
      rw [HW2.out]
      refine wp_region_quiet_tail 32 (by kernel_rfl) (by kernel_rfl) ?_
      simp only [List.take, List.drop]
      repeat first
        | (go_big_quiet_want; refine quiet_load_row 26 _ rfl _ rfl _ _ _ _ HP.out Tryd.underlying26 rfl HSZ.out ?_; simp only [Act.put, List.setIfInBounds_toArray, List.set_cons_succ, List.set_cons_zero]; go_big_quiet_on)
        | (go_big_quiet_want; refine quiet_load_cell 9 _ rfl _ rfl _ _ HI0.out Tryd.underlying9 rfl ?_; simp only [Act.put, List.setIfInBounds_toArray, List.set_cons_succ, List.set_cons_zero]; go_big_quiet_on)
        | (go_big_quiet_want; refine quiet_load_cell 3 _ rfl _ rfl _ _ HP4.out Tryd.underlying3 rfl ?_; simp only [Act.put, List.setIfInBounds_toArray, List.set_cons_succ, List.set_cons_zero]; go_big_quiet_on)
        | (go_big_quiet_want; refine quiet_load_cell 3 _ rfl _ rfl _ _ HP3.out Tryd.underlying3 rfl ?_; simp only [Act.put, List.setIfInBounds_toArray, List.set_cons_succ, List.set_cons_zero]; go_big_quiet_on)
        | (go_big_quiet_want; refine quiet_load_cell 4 _ rfl _ rfl _ _ HP5.out Tryd.underlying4 rfl ?_; simp only [Act.put, List.setIfInBounds_toArray, List.set_cons_succ, List.set_cons_zero]; go_big_quiet_on)
        | go_big_quiet_step ((intro hW; first | (go_at_call 21; exact Ret.quiet hW (side_any _ _ _)) | (go_at_call 12; exact Ret.quiet hW (HPR.out _ (HB2.out.trans (hW.mono HB2.out.size))))))
      refine wpQuiet_nil ?_
      intro W hW
      go_wp2_with (fail)
      refine (first7 _ _ _ _ _ _ _ _ _ _ _ _ _ _ W).mono ?_
      rintro e w3 ⟨rfl, hw3⟩
      have HB3 := Lib.hid ((HB2.out.trans (hW.mono HB2.out.size)).trans (((Below.refl _ _).alloc (Nat.le_refl _) _ |>.trans (hw3.mono (by simp))).mono (HB2.out.trans (hW.mono HB2.out.size)).size))
      clear hw3 hW
      go_wp2_with (fail)
      go_ret
      exact ⟨congrArg (fun z => Ending.returned (Value.int .i64 z)) HA.out, HB3.out⟩
    | false =>
      go_enter Tryd.func14, Tryd.ntmps14
      go_wp2_with (fail)
      rw [HW2.out]
      refine wp_region_quiet_tail 32 (by kernel_rfl) (by kernel_rfl) ?_
      simp only [List.take, List.drop]
      repeat first
        | (go_big_quiet_want; refine quiet_load_row 26 _ rfl _ rfl _ _ _ _ HP.out Tryd.underlying26 rfl HSZ.out ?_; simp only [Act.put, List.setIfInBounds_toArray, List.set_cons_succ, List.set_cons_zero]; go_big_quiet_on)
        | (go_big_quiet_want; refine quiet_load_cell 9 _ rfl _ rfl _ _ HI0.out Tryd.underlying9 rfl ?_; simp only [Act.put, List.setIfInBounds_toArray, List.set_cons_succ, List.set_cons_zero]; go_big_quiet_on)
        | (go_big_quiet_want; refine quiet_load_cell 3 _ rfl _ rfl _ _ HP4.out Tryd.underlying3 rfl ?_; simp only [Act.put, List.setIfInBounds_toArray, List.set_cons_succ, List.set_cons_zero]; go_big_quiet_on)
        | (go_big_quiet_want; refine quiet_load_cell 3 _ rfl _ rfl _ _ HP3.out Tryd.underlying3 rfl ?_; simp only [Act.put, List.setIfInBounds_toArray, List.set_cons_succ, List.set_cons_zero]; go_big_quiet_on)
        | (go_big_quiet_want; refine quiet_load_cell 4 _ rfl _ rfl _ _ HP5.out Tryd.underlying4 rfl ?_; simp only [Act.put, List.setIfInBounds_toArray, List.set_cons_succ, List.set_cons_zero]; go_big_quiet_on)
        | go_big_quiet_step ((intro hW; first | (go_at_call 21; exact Ret.quiet hW (side_any _ _ _)) | (go_at_call 12; exact Ret.quiet hW (HPR.out _ (HB2.out.trans (hW.mono HB2.out.size))))))
      refine wpQuiet_nil ?_
      intro W hW
      go_wp2_with (fail)
      refine (first7 _ _ _ _ _ _ _ _ _ _ _ _ _ _ W).mono ?_
      rintro e w3 ⟨rfl, hw3⟩
      have HB3 := Lib.hid ((HB2.out.trans (hW.mono HB2.out.size)).trans (((Below.refl _ _).alloc (Nat.le_refl _) _ |>.trans (hw3.mono (by simp))).mono (HB2.out.trans (hW.mono HB2.out.size)).size))
      clear hw3 hW
      go_wp2_with (fail)
      go_ret
      exact ⟨congrArg (fun z => Ending.returned (Value.int .i64 z)) HA.out, HB3.out⟩
  · have h4' : (what == 4) = false := beq_eq_false_iff_ne.2 h4
    have hA := HACT.out false h4'.symm
    have hg : goes what = if (what == 3) = true then 2 else 1 := by unfold goes; simp
    rw [hg] at hA
    clear HACT hg
    cases h3 : what == 3 <;> rw [h3] at hA <;> have HA := Lib.hid hA <;> clear hA <;> cases is
    all_goals
      go_enter Tryd.func14, Tryd.ntmps14
      go_wp2_with (fail)
      rw [HW2.out]
      refine wp_region_quiet_tail 32 (by kernel_rfl) (by kernel_rfl) ?_
      simp only [List.take, List.drop]
      repeat first
        | (go_big_quiet_want; refine quiet_load_row 26 _ rfl _ rfl _ _ _ _ HP.out Tryd.underlying26 rfl HSZ.out ?_; simp only [Act.put, List.setIfInBounds_toArray, List.set_cons_succ, List.set_cons_zero]; go_big_quiet_on)
        | (go_big_quiet_want; refine quiet_load_cell 9 _ rfl _ rfl _ _ HI0.out Tryd.underlying9 rfl ?_; simp only [Act.put, List.setIfInBounds_toArray, List.set_cons_succ, List.set_cons_zero]; go_big_quiet_on)
        | (go_big_quiet_want; refine quiet_load_cell 3 _ rfl _ rfl _ _ HP4.out Tryd.underlying3 rfl ?_; simp only [Act.put, List.setIfInBounds_toArray, List.set_cons_succ, List.set_cons_zero]; go_big_quiet_on)
        | (go_big_quiet_want; refine quiet_load_cell 3 _ rfl _ rfl _ _ HP3.out Tryd.underlying3 rfl ?_; simp only [Act.put, List.setIfInBounds_toArray, List.set_cons_succ, List.set_cons_zero]; go_big_quiet_on)
        | (go_big_quiet_want; refine quiet_load_cell 4 _ rfl _ rfl _ _ HP5.out Tryd.underlying4 rfl ?_; simp only [Act.put, List.setIfInBounds_toArray, List.set_cons_succ, List.set_cons_zero]; go_big_quiet_on)
        | go_big_quiet_step ((intro hW; first | (go_at_call 21; exact Ret.quiet hW (side_any _ _ _)) | (go_at_call 12; exact Ret.quiet hW (HPR.out _ (HB2.out.trans (hW.mono HB2.out.size))))))
      refine wpQuiet_nil ?_
      intro W hW
      go_wp2_with (fail)
      refine (first7 _ _ _ _ _ _ _ _ _ _ _ _ _ _ W).mono ?_
      rintro e w3 ⟨rfl, hw3⟩
      have HB3 := Lib.hid ((HB2.out.trans (hW.mono HB2.out.size)).trans (((Below.refl _ _).alloc (Nat.le_refl _) _ |>.trans (hw3.mono (by simp))).mono (HB2.out.trans (hW.mono HB2.out.size)).size))
      clear hw3 hW
      go_wp2_with (fail)
      go_ret
      exact ⟨congrArg (fun z => Ending.returned (Value.int .i64 z)) HA.out, HB3.out⟩
end Go.Proofs.YtjhjepkmcbjgoaaDoor
end

/- A map from texts to numbers that the call has made. -/
section
set_option linter.unusedVariables false
namespace Go.Proofs.YtjhjepkmcbjgoaaDoor
open Go.RowKit Go.Maps Go.ChangeMaps

def mapF (look : List UInt8 → Option Int) : Value → Option Value := fun v => match v with
  | .string b => (look b.data.toList).map (Value.int .i64)
  | _ => none
/-- Block b is a map of at most n entries that tells 'look'. -/
def StrM (w : World) (b n : Nat) (look : List UInt8 → Option Int) : Prop := MapIs Tryd.prog 9 w b n (mapF look)
theorem key_str (s : List UInt8) (hs : s.length ≤ 9223372036854775807) : ∃ l, keyOf Tryd.prog 9 (.string ⟨s.toArray⟩) = some l := by
  unfold keyOf
  exact ⟨.string s, by simp [mapKey, Tryd.underlying9]; show s.length ≤ maxLen; unfold maxLen; exact hs⟩
theorem zero_int (w : World) : (zeroValue 3).run Tryd.prog w = .ok (.int .i64 0) w := by kernel_rfl
section
variable {w w' : World} {b n : Nat} {lk : List UInt8 → Option Int}
theorem StrM.made (w : World) : StrM (w.alloc (.map #[] 0)) w.heap.size 0 (fun _ => none) := by
  have h := MapIs.made w Tryd.prog 9
  have e : mapF (fun _ => none) = fun _ => none := by funext v; unfold mapF; cases v <;> rfl
  unfold StrM
  rw [e]; exact h
theorem StrM.below (h : StrM w b n lk) (hb : Below w.heap.size w w') : StrM w' b n lk := MapIs.below h hb
theorem StrM.lt (h : StrM w b n lk) : b < w.heap.size := MapIs.lt h
theorem StrM.look (h : StrM w b n lk) (s : List UInt8) (hs : s.length ≤ 9223372036854775807) : (Instr.lookup 45 (.map (some b)) (.string ⟨s.toArray⟩) true).run Tryd.prog w = .ok (.tuple #[.int .i64 ((lk s).getD 0), .bool (lk s).isSome]) w := by
  obtain ⟨l, hl⟩ := key_str s hs
  have := MapIs.look h (string_keyed Tryd.underlying9) Tryd.underlying45 (zero_int w) hl true
  rw [this]
  have e : mapF lk (.string ⟨s.toArray⟩) = (lk s).map (Value.int .i64) := by unfold mapF; simp
  rw [e]
  cases lk s <;> rfl
set_option maxRecDepth 100000 in
theorem StrM.store (h : StrM w b n lk) {s : List UInt8} {v : Int} {look' : List UInt8 → Option Int} (hs : s.length ≤ 9223372036854775807) (hl : ∀ t, look' t = if t = s then some v else lk t) :
    ∃ w', (Instr.mapUpdate 45 (.map (some b)) (.string ⟨s.toArray⟩) (.int .i64 v)).run Tryd.prog w = .ok () w' ∧ StrM w' b (n + 1) look' ∧ ∀ B, B ≤ b → Below B w w' := by
  obtain ⟨l, hk⟩ := key_str s hs
  obtain ⟨o, ho, hm⟩ := MapIs.store h (string_keyed Tryd.underlying9) Tryd.underlying45 (v := .int .i64 v) hk (mapF look') (fun y hy => by
      unfold mapF
      cases y with
      | string c =>
        simp only
        rw [hl, if_neg]
        intro e
        apply hy
        congr 1
        apply ByteArray.ext
        rw [← e]
      | _ => rfl) (by unfold mapF; simp only [hl, if_pos]; rfl)
  refine ⟨{ w with heap := w.heap.setIfInBounds b o }, ho w rfl, hm _ (by simp [MapIs.lt h]), fun B hB => ⟨rfl, rfl, rfl, by simp, fun k hk => ?_⟩⟩
  have : b ≠ k := by omega
  simp [this]
end
end Go.Proofs.YtjhjepkmcbjgoaaDoor
end
