/- name.Split, Parent, Base, Within, Join. -/
import Derived.Test.YtpfpjinkifggdaaDoorPath
import Derived.Test.YtpfpjinkifggdaaDoorStrs
import Derived.Test.YtpfpjinkifggdaaDoorJoin
namespace Go.Proofs.YtpfpjinkifggdaaDoor
open Go.RowKit Plain

/-- What a call may lean on. -/
structure Laid (w : World) (m : Int) : Prop where
  tabs : Tabs w
  max : w.cell? ⟨2, 0, none⟩ = some (.int .i64 m)
theorem Laid.below {w w' : World} {m : Int} (h : Laid w m) (hb : Below w.heap.size w w') : Laid w' m :=
  ⟨Utf8Tabs_below h.tabs hb, (hb.cell (p := ⟨2, 0, none⟩) (World.block_lt_of_cell? _ _ h.max)).trans h.max⟩

def splitM (s : List UInt8) : List (List UInt8) := if pathOK s then parts s else []

theorem Split_any (s : List UInt8) (m : Int) (w : World) (hL : Laid w m) :
    Calls Tryd.prog 16 #[.string ⟨s.toArray⟩] w (StrsOut w (splitM s)) := by
  have hp := Path_any s w hL.tabs
  unfold splitM
  cases hok : pathOK s with
  | false =>
    rw [hok] at hp
    have HP := Lib.hid hp
    clear hp hok
    go_enter Tryd.func16, Tryd.ntmps16
    go_wp2_with (fail)
    refine HP.out.mono ?_
    rintro e w1 ⟨rfl, hw1⟩
    go_wp2_with (fail)
    go_ret
    exact ⟨none, 0, rfl, Nat.le_refl _, Nat.zero_le _, Reads.nil _ _ _, hw1, fun _ => rfl⟩
  | true =>
    rw [hok] at hp
    have HP := Lib.hid hp
    have hs := pathOK_len hok
    have HS := Lib.hid (fun W (hb : Below w.heap.size w W) => strSplit_any s 47 m W (by omega) (hL.below hb).max)
    clear hp hok
    rw [if_pos rfl]
    show Calls _ _ _ _ (StrsOut w (cutAt 47 [] s))
    generalize cutAt 47 [] s = l at *
    go_enter Tryd.func16, Tryd.ntmps16
    go_wp2_with (fail)
    refine HP.out.mono ?_
    rintro e w1 ⟨rfl, hw1⟩
    go_wp2_with (fail)
    refine (HS.out _ hw1).mono ?_
    rintro e w2 ⟨A, c, rfl, hc, hm, hr, hw2, h0⟩
    go_wp2_with (fail)
    go_ret
    exact ⟨A, c, rfl, hc, hm, hr, hw1.trans (hw2.mono hw1.size), h0⟩

theorem lib_none {s : List UInt8} (h : 47 ∉ s) : Lib.lastIndexByte ⟨s.toArray⟩ 47 = -1 := by
  rcases Lib.lastIndexByte_spec ⟨s.toArray⟩ 47 with ⟨e, _⟩ | ⟨i, hi, _, hc, _⟩
  · exact e
  · exfalso
    have hi' : i < s.length := by simpa [ByteArray.size] using hi
    have : (s.toArray[i]!) = s[i] := by simp [hi']
    simp only [this] at hc
    exact h (by have e : s[i] = 47 := UInt8.toNat.inj (by simpa using Int.ofNat.inj hc); rw [← e]; exact List.getElem_mem hi')
theorem lib_last (p q : List UInt8) (h : 47 ∉ q) : Lib.lastIndexByte ⟨(p ++ 47 :: q).toArray⟩ 47 = p.length := by
  have hget : ∀ j, j < (p ++ 47 :: q).length → ((p ++ 47 :: q).toArray[j]!) = (p ++ 47 :: q).getD j 0 := fun j hj => by simp [List.getD]; rfl
  have hsz : (ByteArray.mk (p ++ 47 :: q).toArray).size = (p ++ 47 :: q).length := by simp [ByteArray.size]
  have hgp : (p ++ 47 :: q).getD p.length 0 = 47 := by simp [List.getD]
  have hpl : p.length < (p ++ 47 :: q).length := by simp
  rcases Lib.lastIndexByte_spec ⟨(p ++ 47 :: q).toArray⟩ 47 with ⟨_, hn⟩ | ⟨i, hi, e, hc, hn⟩
  · exfalso
    have := hn p.length (by rw [hsz]; exact hpl)
    simp only [hget _ hpl, hgp] at this
    exact this rfl
  · rw [e]
    rw [hsz] at hi hn
    simp only [hget _ hi] at hc
    rcases Nat.lt_trichotomy i p.length with hlt | heq | hgt
    · exfalso
      have := hn p.length hlt hpl
      simp only [hget _ hpl, hgp] at this
      exact this rfl
    · rw [heq]
    · exfalso
      have e2 : (p ++ 47 :: q).getD i 0 = 47 := UInt8.toNat.inj (by simpa using Int.ofNat.inj hc)
      obtain ⟨k, rfl⟩ : ∃ k, i = p.length + 1 + k := ⟨i - p.length - 1, by omega⟩
      have e3 : (p ++ 47 :: q).getD (p.length + 1 + k) 0 = q.getD k 0 := by
        simp only [List.getD]
        rw [List.getElem?_append_right (by omega), show p.length + 1 + k - p.length = k + 1 by omega]; rfl
      rw [e3] at e2
      have hk : k < q.length := by simp at hi; omega
      exact h (by rw [← e2]; simp [List.getD, hk])
theorem LastIndexS_any (s : List UInt8) (w : World) (hs : s.length ≤ 9223372036854775807) :
    Calls Tryd.prog 50 #[.string ⟨s.toArray⟩, .int .u8 47] w (Ret w (.int .i64 (Lib.lastIndexByte ⟨s.toArray⟩ 47))) := by
  have hsz : (ByteArray.mk s.toArray).size = s.length := by simp [ByteArray.size]
  have HL := Lib.hid (show Lib.lastIndexByte ⟨s.toArray⟩ 47 = Lib.lastIdx ⟨s.toArray⟩ 47 s.length by unfold Lib.lastIndexByte; rw [hsz])
  clear hsz
  go_enter Tryd.func50, Tryd.ntmps50
  go_wp2_with (fail)
  go_loopw [5] (fun t4 W => ∃ k : Nat, k ≤ s.length ∧ t4 = .int .i64 ((k : Int) - 1) ∧ Hid (Lib.lastIdx ⟨s.toArray⟩ 47 s.length = Lib.lastIdx ⟨s.toArray⟩ 47 k) ∧ Hid (Below w.heap.size w W)) (fun t4 _ => (intOf t4 + 1).toNat)
  case atStart => exact ⟨s.length, by omega, rfl, Lib.hid rfl, Lib.hid (Below.refl _ _)⟩
  case round =>
    obtain ⟨k, hk, rfl, HI, HB⟩ := hrel
    by_cases h0 : k = 0
    · subst h0
      go_wp2_with (fail)
      go_ret
      exact ⟨by rw [HL.out, HI.out]; rfl, HB.out⟩
    · obtain ⟨j, rfl⟩ : ∃ j, k = j + 1 := ⟨k - 1, by omega⟩
      have e1 : ((j + 1 : Nat) : Int) - 1 = j := by omega
      rw [e1]
      have i0 : (0 : Int) ≤ j := by omega
      have i1 : (j : Int) < s.length := by omega
      have hg : (s.toArray[j]!) = s[j]'(by omega) := by simp [show j < s.length by omega]
      have hn1 : ((j : Int)).toNat = j := by omega
      generalize hx : s[j]'(by omega) = x at *
      by_cases h47 : (x.toNat : Int) = 47
      · have HR := Lib.hid (HI.out.trans (Lib.lastIdx_hit ⟨s.toArray⟩ 47 j (by simp only [hg]; exact h47)))
        have hB : ((x.toNat : Int) == 47) = true := by simpa using h47
        clear h47 hg h0 e1
        go_wp2_with (fail)
        go_ret
        exact ⟨by rw [HL.out, HR.out]; rfl, HB.out⟩
      · have HR := Lib.hid (HI.out.trans (Lib.lastIdx_miss ⟨s.toArray⟩ 47 j (by simp only [hg]; exact h47)))
        have hB : ((x.toNat : Int) == 47) = false := by simpa using h47
        clear h47 hg h0 e1
        go_wp2_with (fail)
        go_roundw
        case rel => exact ⟨j, by omega, by go_num, HR, HB⟩
        case measure => simp [intOf]
theorem LastIndex_any (s : List UInt8) (w : World) (hs : s.length ≤ 9223372036854775807) :
    Calls Tryd.prog 37 #[.string ⟨s.toArray⟩, .int .u8 47] w (Ret w (.int .i64 (Lib.lastIndexByte ⟨s.toArray⟩ 47))) := by
  have HC := Lib.hid (LastIndexS_any s w hs)
  go_enter Tryd.func37, Tryd.ntmps37
  go_wp2_with (fail)
  refine HC.out.mono ?_
  rintro e w1 ⟨rfl, hw1⟩
  go_wp2_with (fail)
  go_ret
  exact ⟨rfl, hw1⟩

theorem Parent_any (s : List UInt8) (w : World) (hT : Tabs w) (hs : s.length ≤ 9223372036854775807) :
    Calls Tryd.prog 17 #[.string ⟨s.toArray⟩] w (Ret w (.string ⟨(parentM s).toArray⟩)) := by
  have hl := LastIndex_any s w hs
  by_cases h47 : 47 ∈ s
  · obtain ⟨p, q, rfl, hq⟩ := last_cut h47
    rw [lib_last p q hq] at hl
    have hp := fun W (hb : Below w.heap.size w W) => Path_any (p ++ 47 :: q) W (Utf8Tabs_below hT hb)
    have hpar := parent_cut p q hq
    have htk : (p ++ 47 :: q).take p.length = p := by simp
    have hpl : p.length < (p ++ 47 :: q).length := by simp
    have hf : pathOK (p ++ 47 :: q) = false → parentM (p ++ 47 :: q) = [] := fun e => by unfold parentM; rw [e]; rfl
    generalize p ++ 47 :: q = s at *
    have HL := Lib.hid hl
    clear hl h47
    cases hok : pathOK s with
    | true =>
      rw [hok] at hp
      have HP := Lib.hid hp
      have HPAR := Lib.hid (hpar hok)
      clear hp hok hpar hf
      go_enter Tryd.func17, Tryd.ntmps17
      go_wp2_with (fail)
      refine HL.out.mono ?_
      rintro e w1 ⟨rfl, hw1⟩
      go_wp2_with (fail)
      refine (HP.out _ hw1).mono ?_
      rintro e w2 ⟨rfl, hw2⟩
      go_wp2_with (fail)
      go_ret
      exact ⟨by rw [HPAR.out]; rfl, hw1.trans (hw2.mono hw1.size)⟩
    | false =>
      rw [hok] at hp
      have HP := Lib.hid hp
      have HPAR := Lib.hid (hf hok)
      clear hp hok hpar hf
      go_enter Tryd.func17, Tryd.ntmps17
      go_wp2_with (fail)
      refine HL.out.mono ?_
      rintro e w1 ⟨rfl, hw1⟩
      go_wp2_with (fail)
      refine (HP.out _ hw1).mono ?_
      rintro e w2 ⟨rfl, hw2⟩
      go_wp2_with (fail)
      go_ret
      exact ⟨by rw [HPAR.out]; rfl, hw1.trans (hw2.mono hw1.size)⟩
  · rw [lib_none h47] at hl
    rw [parent_none h47]
    have HL := Lib.hid hl
    clear hl h47
    go_enter Tryd.func17, Tryd.ntmps17
    go_wp2_with (fail)
    refine HL.out.mono ?_
    rintro e w1 ⟨rfl, hw1⟩
    go_wp2_with (fail)
    go_ret
    exact ⟨rfl, hw1⟩

theorem Base_any (s : List UInt8) (w : World) (hT : Tabs w) (hs : s.length ≤ 9223372036854775807) :
    Calls Tryd.prog 18 #[.string ⟨s.toArray⟩] w (Ret w (.string ⟨(baseM s).toArray⟩)) := by
  have hp := Path_any s w hT
  have hl := fun W => LastIndex_any s W hs
  cases hok : pathOK s with
  | false =>
    rw [hok] at hp
    have HB := Lib.hid (show baseM s = [] by unfold baseM; rw [hok]; rfl)
    have HP := Lib.hid hp
    clear hp hok hl
    go_enter Tryd.func18, Tryd.ntmps18
    go_wp2_with (fail)
    refine HP.out.mono ?_
    rintro e w1 ⟨rfl, hw1⟩
    go_wp2_with (fail)
    go_ret
    exact ⟨by rw [HB.out]; rfl, hw1⟩
  | true =>
    rw [hok] at hp
    have HP := Lib.hid hp
    clear hp
    by_cases h47 : 47 ∈ s
    · obtain ⟨p, q, rfl, hq⟩ := last_cut h47
      rw [lib_last p q hq] at hl
      have HB := Lib.hid (base_cut p q hq hok)
      have hd : (p ++ 47 :: q).drop (p.length + 1) = q := by rw [← List.drop_drop, List.drop_left' rfl]; rfl
      have hd2 : q.take ((p ++ 47 :: q).length - (p.length + 1)) = q := List.take_of_length_le (by simp; omega)
      have hpl : p.length + 1 ≤ (p ++ 47 :: q).length := by simp
      clear hok h47
      generalize p ++ 47 :: q = s at *
      have HL := Lib.hid hl
      clear hl
      go_enter Tryd.func18, Tryd.ntmps18
      go_wp2_with (fail)
      refine HP.out.mono ?_
      rintro e w1 ⟨rfl, hw1⟩
      go_wp2_with (fail)
      refine (HL.out _).mono ?_
      rintro e w2 ⟨rfl, hw2⟩
      go_wp2_with (fail)
      go_ret
      exact ⟨by rw [HB.out]; rfl, hw1.trans (hw2.mono hw1.size)⟩
    · rw [lib_none h47] at hl
      have HB := Lib.hid (base_none h47 hok)
      have HL := Lib.hid hl
      clear hl hok h47
      go_enter Tryd.func18, Tryd.ntmps18
      go_wp2_with (fail)
      refine HP.out.mono ?_
      rintro e w1 ⟨rfl, hw1⟩
      go_wp2_with (fail)
      refine (HL.out _).mono ?_
      rintro e w2 ⟨rfl, hw2⟩
      go_wp2_with (fail)
      go_ret
      exact ⟨by rw [HB.out]; simp, hw1.trans (hw2.mono hw1.size)⟩

theorem HasPrefix_any (s p : List UInt8) (w : World) :
    Calls Tryd.prog 33 #[.string ⟨s.toArray⟩, .string ⟨p.toArray⟩] w (Ret w (.bool (p.isPrefixOf s))) :=
  (Tryd.strings_HasPrefix ⟨s.toArray⟩ ⟨p.toArray⟩ w).mono fun _ _ ⟨he, hw⟩ => ⟨he, hw ▸ Below.refl _ _⟩

set_option maxHeartbeats 1000000 in
theorem Within_any (p q : List UInt8) (w : World) (hT : Tabs w) :
    Calls Tryd.prog 13 #[.string ⟨p.toArray⟩, .string ⟨q.toArray⟩] w (Ret w (.bool (withinM p q))) := by
  have hP := Path_any p w hT
  have hQ := fun W (hb : Below w.heap.size w W) => Path_any q W (Utf8Tabs_below hT hb)
  have hH := fun W => HasPrefix_any p (q ++ [47]) W
  have hql := fun h => pathOK_len (s := q) h
  unfold withinM
  generalize pathOK p = b1 at *
  generalize pathOK q = b2 at *
  generalize (q ++ [47]).isPrefixOf p = b3 at *
  obtain ⟨b4, h4⟩ : ∃ b, q.isEmpty = b := ⟨_, rfl⟩
  obtain ⟨b5, h5⟩ : ∃ b, (p == q) = b := ⟨_, rfl⟩
  rw [h4, h5]
  have HP := Lib.hid hP
  have HQ := Lib.hid hQ
  have HH := Lib.hid hH
  clear hP hQ hH
  cases b1 with
  | false =>
    go_enter Tryd.func13, Tryd.ntmps13
    go_wp2_with (fail)
    refine HP.out.mono ?_
    rintro e w1 ⟨rfl, hw1⟩
    go_wp2_with (fail)
    go_ret
    exact ⟨rfl, hw1⟩
  | true =>
    cases b4 with
    | true =>
      go_enter Tryd.func13, Tryd.ntmps13
      go_wp2_with (fail)
      refine HP.out.mono ?_
      rintro e w1 ⟨rfl, hw1⟩
      go_wp2_with (fail)
      go_ret
      exact ⟨rfl, hw1⟩
    | false =>
      cases b2 with
      | false =>
        go_enter Tryd.func13, Tryd.ntmps13
        go_wp2_with (fail)
        refine HP.out.mono ?_
        rintro e w1 ⟨rfl, hw1⟩
        go_wp2_with (fail)
        refine (HQ.out _ hw1).mono ?_
        rintro e w2 ⟨rfl, hw2⟩
        go_wp2_with (fail)
        go_ret
        exact ⟨rfl, hw1.trans (hw2.mono hw1.size)⟩
      | true =>
        have hql := hql rfl
        cases b5 with
        | true =>
          go_enter Tryd.func13, Tryd.ntmps13
          go_wp2_with (fail)
          refine HP.out.mono ?_
          rintro e w1 ⟨rfl, hw1⟩
          go_wp2_with (fail)
          refine (HQ.out _ hw1).mono ?_
          rintro e w2 ⟨rfl, hw2⟩
          go_wp2_with (fail)
          go_ret
          exact ⟨rfl, hw1.trans (hw2.mono hw1.size)⟩
        | false =>
          go_enter Tryd.func13, Tryd.ntmps13
          go_wp2_with (fail)
          refine HP.out.mono ?_
          rintro e w1 ⟨rfl, hw1⟩
          go_wp2_with (fail)
          refine (HQ.out _ hw1).mono ?_
          rintro e w2 ⟨rfl, hw2⟩
          have hw12 := hw1.trans (hw2.mono hw1.size)
          clear hw1 hw2
          go_wp2_with (fail)
          refine (HH.out _).mono ?_
          rintro e w3 ⟨rfl, hw3⟩
          go_wp2_with (fail)
          go_ret
          exact ⟨rfl, hw12.trans (hw3.mono hw12.size)⟩

theorem Count_any (s : List UInt8) (w : World) :
    Calls Tryd.prog 34 #[.string ⟨s.toArray⟩, .string ⟨#[47]⟩] w fun e w' => e = .returned (.int .i64 (s.count 47 : Nat)) ∧ w' = w := Tryd.strings_Count_one ⟨s.toArray⟩ 47 w
def joinOK (l : List (List UInt8)) : Bool := pathOK (joinS l) && (joinS l).count 47 == l.length - 1 && decide (1 ≤ l.length)
set_option maxHeartbeats 1000000 in
theorem Join_name (A : Option Addr) (c : Nat) (l : List (List UInt8)) (w : World) (hT : Tabs w) (hr : Reads w 1 A l.length (strs l)) (hlc : l.length ≤ c) (hc : c ≤ maxLen) (hN : l.length ≤ 4294967280) (hlen : (joinS l).length ≤ 4294967280) :
    Calls Tryd.prog 19 #[.slice A l.length c] w (Ret w (.tuple #[.string ⟨(if joinOK l then joinS l else []).toArray⟩, .bool (joinOK l)])) := by
  have hJ := strJoin_any A c l [47] w hr (by omega) hlc (by unfold maxLen at hc; omega) (by rw [join_lib]; omega)
  rw [join_lib] at hJ
  have hP := fun W (hb : Below w.heap.size w W) => Path_any (joinS l) W (Utf8Tabs_below hT hb)
  have hC := fun W => Count_any (joinS l) W
  have hcn : (joinS l).count 47 ≤ (joinS l).length := List.count_le_length
  have hne : pathOK (joinS l) = true → 1 ≤ l.length := fun e => by
    rcases l with _ | ⟨x, r⟩
    · have h := pathOK_ne e; exact absurd rfl h
    · simp
  unfold joinOK
  generalize (joinS l).count 47 = cn at *
  generalize joinS l = J at *
  cases hok : pathOK J with
  | false =>
    rw [hok] at hP
    have HJ := Lib.hid hJ
    have HP := Lib.hid hP
    clear hJ hP hC hok hne
    go_enter Tryd.func19, Tryd.ntmps19
    go_wp2_with (fail)
    refine HJ.out.mono ?_
    rintro e w1 ⟨rfl, hw1⟩
    go_wp2_with (fail)
    refine (HP.out _ hw1).mono ?_
    rintro e w2 ⟨rfl, hw2⟩
    go_wp2_with (fail)
    go_ret2
    exact ⟨rfl, hw1.trans (hw2.mono hw1.size)⟩
  | true =>
    rw [hok] at hP
    have hl1 := hne hok
    have HJ := Lib.hid hJ
    have HP := Lib.hid hP
    have HC := Lib.hid hC
    rw [decide_eq_true hl1]
    have e1 : IntKind.i64.wrap ((l.length : Int) - 1) = (l.length : Int) - 1 := IntWalk.i64_in _ (by omega)
    by_cases hq : cn = l.length - 1
    · have hb : ((cn : Int) != (l.length : Int) - 1) = false := by simp; omega
      have hb2 : (cn == l.length - 1) = true := by simpa using hq
      rw [hb2]
      clear hJ hP hC hok hne hq hb2
      go_enter Tryd.func19, Tryd.ntmps19
      go_wp2_with (fail)
      refine HJ.out.mono ?_
      rintro e w1 ⟨rfl, hw1⟩
      go_wp2_with (fail)
      refine (HP.out _ hw1).mono ?_
      rintro e w2 ⟨rfl, hw2⟩
      go_wp2_with (fail)
      refine (HC.out _).mono ?_
      rintro e w3 ⟨rfl, rfl⟩
      go_wp2_with (fail)
      go_ret2
      exact ⟨by simp, hw1.trans (hw2.mono hw1.size)⟩
    · have hb : ((cn : Int) != (l.length : Int) - 1) = true := by simp; omega
      have hb2 : (cn == l.length - 1) = false := by simpa using hq
      rw [hb2]
      clear hJ hP hC hok hne hq hb2
      go_enter Tryd.func19, Tryd.ntmps19
      go_wp2_with (fail)
      refine HJ.out.mono ?_
      rintro e w1 ⟨rfl, hw1⟩
      go_wp2_with (fail)
      refine (HP.out _ hw1).mono ?_
      rintro e w2 ⟨rfl, hw2⟩
      go_wp2_with (fail)
      refine (HC.out _).mono ?_
      rintro e w3 ⟨rfl, rfl⟩
      go_wp2_with (fail)
      go_ret2
      exact ⟨by simp, hw1.trans (hw2.mono hw1.size)⟩
end Go.Proofs.YtpfpjinkifggdaaDoor
