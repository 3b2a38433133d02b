/- name.Split, Parent, Base. -/
import Derived.Test.YtgppfcaghjbjmaaDoorPath
import Derived.Test.YtgppfcaghjbjmaaDoorStrs
namespace Go.Proofs.YtgppfcaghjbjmaaDoor
open Go.RowKit Plain

/-- What a call may lean on. -/
structure Laid (w : World) (m : Int) : Prop where
  tabs : Tabs w
  max : w.cell? ⟨0, 0, none⟩ = some (.int .i64 m)
theorem Laid.below {w w' : World} {m : Int} (h : Laid w m) (hb : Below w.heap.size w w') : Laid w' m :=
  ⟨Utf8Tabs_below h.tabs hb, (hb.cell (p := ⟨0, 0, none⟩) (World.block_lt_of_cell? _ _ h.max)).trans h.max⟩

def splitM (s : List UInt8) : List (List UInt8) := if pathOK s then parts s else []

theorem Split_any (s : List UInt8) (m : Int) (w : World) (hL : Laid w m) :
    Calls Tryd.prog 22 #[.string ⟨s.toArray⟩] w (StrsOut w (splitM s)) := by
  have hp := Path_any s w hL.tabs
  unfold splitM
  cases hok : pathOK s with
  | false =>
    rw [hok] at hp
    have HP := Lib.hid hp
    clear hp hok
    go_enter Tryd.func22, Tryd.ntmps22
    go_wp2_with (fail)
    refine HP.out.mono ?_
    rintro e w1 ⟨rfl, hw1⟩
    go_wp2_with (fail)
    go_ret
    exact ⟨none, 0, rfl, Nat.le_refl _, Nat.zero_le _, Reads.nil _ _ _, hw1, fun _ => rfl⟩
  | true =>
    rw [hok] at hp
    have HP := Lib.hid hp
    have hs := pathOK_len hok
    have HS := Lib.hid (fun W (hb : Below w.heap.size w W) => strSplit_any s 47 m W (by omega) (hL.below hb).max)
    clear hp hok
    rw [if_pos rfl]
    show Calls _ _ _ _ (StrsOut w (cutAt 47 [] s))
    generalize cutAt 47 [] s = l at *
    go_enter Tryd.func22, Tryd.ntmps22
    go_wp2_with (fail)
    refine HP.out.mono ?_
    rintro e w1 ⟨rfl, hw1⟩
    go_wp2_with (fail)
    refine (HS.out _ hw1).mono ?_
    rintro e w2 ⟨A, c, rfl, hc, hm, hr, hw2, h0⟩
    go_wp2_with (fail)
    go_ret
    exact ⟨A, c, rfl, hc, hm, hr, hw1.trans (hw2.mono hw1.size), h0⟩

theorem lib_none {s : List UInt8} (h : 47 ∉ s) : Lib.lastIndexByte ⟨s.toArray⟩ 47 = -1 := by
  rcases Lib.lastIndexByte_spec ⟨s.toArray⟩ 47 with ⟨e, _⟩ | ⟨i, hi, _, hc, _⟩
  · exact e
  · exfalso
    have hi' : i < s.length := by simpa [ByteArray.size] using hi
    have : (s.toArray[i]!) = s[i] := by simp [hi']
    simp only [this] at hc
    exact h (by have e : s[i] = 47 := UInt8.toNat.inj (by simpa using Int.ofNat.inj hc); rw [← e]; exact List.getElem_mem hi')
theorem lib_last (p q : List UInt8) (h : 47 ∉ q) : Lib.lastIndexByte ⟨(p ++ 47 :: q).toArray⟩ 47 = p.length := by
  have hget : ∀ j, j < (p ++ 47 :: q).length → ((p ++ 47 :: q).toArray[j]!) = (p ++ 47 :: q).getD j 0 := fun j hj => by simp [List.getD]; rfl
  have hsz : (ByteArray.mk (p ++ 47 :: q).toArray).size = (p ++ 47 :: q).length := by simp [ByteArray.size]
  have hgp : (p ++ 47 :: q).getD p.length 0 = 47 := by simp [List.getD]
  have hpl : p.length < (p ++ 47 :: q).length := by simp
  rcases Lib.lastIndexByte_spec ⟨(p ++ 47 :: q).toArray⟩ 47 with ⟨_, hn⟩ | ⟨i, hi, e, hc, hn⟩
  · exfalso
    have := hn p.length (by rw [hsz]; exact hpl)
    simp only [hget _ hpl, hgp] at this
    exact this rfl
  · rw [e]
    rw [hsz] at hi hn
    simp only [hget _ hi] at hc
    rcases Nat.lt_trichotomy i p.length with hlt | heq | hgt
    · exfalso
      have := hn p.length hlt hpl
      simp only [hget _ hpl, hgp] at this
      exact this rfl
    · rw [heq]
    · exfalso
      have e2 : (p ++ 47 :: q).getD i 0 = 47 := UInt8.toNat.inj (by simpa using Int.ofNat.inj hc)
      obtain ⟨k, rfl⟩ : ∃ k, i = p.length + 1 + k := ⟨i - p.length - 1, by omega⟩
      have e3 : (p ++ 47 :: q).getD (p.length + 1 + k) 0 = q.getD k 0 := by
        simp only [List.getD]
        rw [List.getElem?_append_right (by omega), show p.length + 1 + k - p.length = k + 1 by omega]; rfl
      rw [e3] at e2
      have hk : k < q.length := by simp at hi; omega
      exact h (by rw [← e2]; simp [List.getD, hk])
theorem LastIndexS_any (s : List UInt8) (w : World) (hs : s.length ≤ 9223372036854775807) :
    Calls Tryd.prog 70 #[.string ⟨s.toArray⟩, .int .u8 47] w (Ret w (.int .i64 (Lib.lastIndexByte ⟨s.toArray⟩ 47))) := by
  have hsz : (ByteArray.mk s.toArray).size = s.length := by simp [ByteArray.size]
  have HL := Lib.hid (show Lib.lastIndexByte ⟨s.toArray⟩ 47 = Lib.lastIdx ⟨s.toArray⟩ 47 s.length by unfold Lib.lastIndexByte; rw [hsz])
  clear hsz
  go_enter Tryd.func70, Tryd.ntmps70
  go_wp2_with (fail)
  go_loopw [5] (fun t4 W => ∃ k : Nat, k ≤ s.length ∧ t4 = .int .i64 ((k : Int) - 1) ∧ Hid (Lib.lastIdx ⟨s.toArray⟩ 47 s.length = Lib.lastIdx ⟨s.toArray⟩ 47 k) ∧ Hid (Below w.heap.size w W)) (fun t4 _ => (intOf t4 + 1).toNat)
  case atStart => exact ⟨s.length, by omega, rfl, Lib.hid rfl, Lib.hid (Below.refl _ _)⟩
  case round =>
    obtain ⟨k, hk, rfl, HI, HB⟩ := hrel
    by_cases h0 : k = 0
    · subst h0
      go_wp2_with (fail)
      go_ret
      exact ⟨by rw [HL.out, HI.out]; rfl, HB.out⟩
    · obtain ⟨j, rfl⟩ : ∃ j, k = j + 1 := ⟨k - 1, by omega⟩
      have e1 : ((j + 1 : Nat) : Int) - 1 = j := by omega
      rw [e1]
      have i0 : (0 : Int) ≤ j := by omega
      have i1 : (j : Int) < s.length := by omega
      have hg : (s.toArray[j]!) = s[j]'(by omega) := by simp [show j < s.length by omega]
      have hn1 : ((j : Int)).toNat = j := by omega
      generalize hx : s[j]'(by omega) = x at *
      by_cases h47 : (x.toNat : Int) = 47
      · have HR := Lib.hid (HI.out.trans (Lib.lastIdx_hit ⟨s.toArray⟩ 47 j (by simp only [hg]; exact h47)))
        have hB : ((x.toNat : Int) == 47) = true := by simpa using h47
        clear h47 hg h0 e1
        go_wp2_with (fail)
        go_ret
        exact ⟨by rw [HL.out, HR.out]; rfl, HB.out⟩
      · have HR := Lib.hid (HI.out.trans (Lib.lastIdx_miss ⟨s.toArray⟩ 47 j (by simp only [hg]; exact h47)))
        have hB : ((x.toNat : Int) == 47) = false := by simpa using h47
        clear h47 hg h0 e1
        go_wp2_with (fail)
        go_roundw
        case rel => exact ⟨j, by omega, by go_num, HR, HB⟩
        case measure => simp [intOf]
theorem LastIndex_any (s : List UInt8) (w : World) (hs : s.length ≤ 9223372036854775807) :
    Calls Tryd.prog 47 #[.string ⟨s.toArray⟩, .int .u8 47] w (Ret w (.int .i64 (Lib.lastIndexByte ⟨s.toArray⟩ 47))) := by
  have HC := Lib.hid (LastIndexS_any s w hs)
  go_enter Tryd.func47, Tryd.ntmps47
  go_wp2_with (fail)
  refine HC.out.mono ?_
  rintro e w1 ⟨rfl, hw1⟩
  go_wp2_with (fail)
  go_ret
  exact ⟨rfl, hw1⟩

theorem Parent_any (s : List UInt8) (w : World) (hT : Tabs w) (hs : s.length ≤ 9223372036854775807) :
    Calls Tryd.prog 33 #[.string ⟨s.toArray⟩] w (Ret w (.string ⟨(parentM s).toArray⟩)) := by
  have hl := LastIndex_any s w hs
  by_cases h47 : 47 ∈ s
  · obtain ⟨p, q, rfl, hq⟩ := last_cut h47
    rw [lib_last p q hq] at hl
    have hp := fun W (hb : Below w.heap.size w W) => Path_any (p ++ 47 :: q) W (Utf8Tabs_below hT hb)
    have hpar := parent_cut p q hq
    have htk : (p ++ 47 :: q).take p.length = p := by simp
    have hpl : p.length < (p ++ 47 :: q).length := by simp
    have hf : pathOK (p ++ 47 :: q) = false → parentM (p ++ 47 :: q) = [] := fun e => by unfold parentM; rw [e]; rfl
    generalize p ++ 47 :: q = s at *
    have HL := Lib.hid hl
    clear hl h47
    cases hok : pathOK s with
    | true =>
      rw [hok] at hp
      have HP := Lib.hid hp
      have HPAR := Lib.hid (hpar hok)
      clear hp hok hpar hf
      go_enter Tryd.func33, Tryd.ntmps33
      go_wp2_with (fail)
      refine HL.out.mono ?_
      rintro e w1 ⟨rfl, hw1⟩
      go_wp2_with (fail)
      refine (HP.out _ hw1).mono ?_
      rintro e w2 ⟨rfl, hw2⟩
      go_wp2_with (fail)
      go_ret
      exact ⟨by rw [HPAR.out]; rfl, hw1.trans (hw2.mono hw1.size)⟩
    | false =>
      rw [hok] at hp
      have HP := Lib.hid hp
      have HPAR := Lib.hid (hf hok)
      clear hp hok hpar hf
      go_enter Tryd.func33, Tryd.ntmps33
      go_wp2_with (fail)
      refine HL.out.mono ?_
      rintro e w1 ⟨rfl, hw1⟩
      go_wp2_with (fail)
      refine (HP.out _ hw1).mono ?_
      rintro e w2 ⟨rfl, hw2⟩
      go_wp2_with (fail)
      go_ret
      exact ⟨by rw [HPAR.out]; rfl, hw1.trans (hw2.mono hw1.size)⟩
  · rw [lib_none h47] at hl
    rw [parent_none h47]
    have HL := Lib.hid hl
    clear hl h47
    go_enter Tryd.func33, Tryd.ntmps33
    go_wp2_with (fail)
    refine HL.out.mono ?_
    rintro e w1 ⟨rfl, hw1⟩
    go_wp2_with (fail)
    go_ret
    exact ⟨rfl, hw1⟩

theorem Base_any (s : List UInt8) (w : World) (hT : Tabs w) (hs : s.length ≤ 9223372036854775807) :
    Calls Tryd.prog 24 #[.string ⟨s.toArray⟩] w (Ret w (.string ⟨(baseM s).toArray⟩)) := by
  have hp := Path_any s w hT
  have hl := fun W => LastIndex_any s W hs
  cases hok : pathOK s with
  | false =>
    rw [hok] at hp
    have HB := Lib.hid (show baseM s = [] by unfold baseM; rw [hok]; rfl)
    have HP := Lib.hid hp
    clear hp hok hl
    go_enter Tryd.func24, Tryd.ntmps24
    go_wp2_with (fail)
    refine HP.out.mono ?_
    rintro e w1 ⟨rfl, hw1⟩
    go_wp2_with (fail)
    go_ret
    exact ⟨by rw [HB.out]; rfl, hw1⟩
  | true =>
    rw [hok] at hp
    have HP := Lib.hid hp
    clear hp
    by_cases h47 : 47 ∈ s
    · obtain ⟨p, q, rfl, hq⟩ := last_cut h47
      rw [lib_last p q hq] at hl
      have HB := Lib.hid (base_cut p q hq hok)
      have hd : (p ++ 47 :: q).drop (p.length + 1) = q := by rw [← List.drop_drop, List.drop_left' rfl]; rfl
      have hd2 : q.take ((p ++ 47 :: q).length - (p.length + 1)) = q := List.take_of_length_le (by simp; omega)
      have hpl : p.length + 1 ≤ (p ++ 47 :: q).length := by simp
      clear hok h47
      generalize p ++ 47 :: q = s at *
      have HL := Lib.hid hl
      clear hl
      go_enter Tryd.func24, Tryd.ntmps24
      go_wp2_with (fail)
      refine HP.out.mono ?_
      rintro e w1 ⟨rfl, hw1⟩
      go_wp2_with (fail)
      refine (HL.out _).mono ?_
      rintro e w2 ⟨rfl, hw2⟩
      go_wp2_with (fail)
      go_ret
      exact ⟨by rw [HB.out]; rfl, hw1.trans (hw2.mono hw1.size)⟩
    · rw [lib_none h47] at hl
      have HB := Lib.hid (base_none h47 hok)
      have HL := Lib.hid hl
      clear hl hok h47
      go_enter Tryd.func24, Tryd.ntmps24
      go_wp2_with (fail)
      refine HP.out.mono ?_
      rintro e w1 ⟨rfl, hw1⟩
      go_wp2_with (fail)
      refine (HL.out _).mono ?_
      rintro e w2 ⟨rfl, hw2⟩
      go_wp2_with (fail)
      go_ret
      exact ⟨by rw [HB.out]; simp, hw1.trans (hw2.mono hw1.size)⟩

theorem HasPrefix_any (s p : List UInt8) (w : World) :
    Calls Tryd.prog 43 #[.string ⟨s.toArray⟩, .string ⟨p.toArray⟩] w (Ret w (.bool (p.isPrefixOf s))) :=
  (Tryd.strings_HasPrefix ⟨s.toArray⟩ ⟨p.toArray⟩ w).mono fun _ _ ⟨he, hw⟩ => ⟨he, hw ▸ Below.refl _ _⟩
end Go.Proofs.YtgppfcaghjbjmaaDoor
