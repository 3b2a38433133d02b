/- hawserref01.Split, Parent, Base. -/
import Derived.Test.YtgppfcaghjbjmaaDoorNameRef
namespace Go.Proofs.YtgppfcaghjbjmaaDoor
open Go.RowKit Plain

theorem Split_ref (s : List UInt8) (w : World) (hs : s.length ≤ 8796093022200) :
    Calls Tryd.prog 35 #[.string ⟨s.toArray⟩] w (StrsOut w (splitM s)) := by
  have hp := Path_ref s w hs
  have HS := Lib.hid (fun W => Parts_ref s W hs)
  unfold splitM
  generalize parts s = l at *
  cases hok : pathOK s with
  | false =>
    rw [hok] at hp
    have HP := Lib.hid hp
    clear hp hok
    go_enter Tryd.func35, Tryd.ntmps35
    go_wp2_with (fail)
    refine HP.out.mono ?_
    rintro e w1 ⟨rfl, hw1⟩
    go_wp2_with (fail)
    go_ret
    exact ⟨none, 0, rfl, Nat.le_refl _, Nat.zero_le _, Reads.nil _ _ _, hw1, fun _ => rfl⟩
  | true =>
    rw [hok] at hp
    have HP := Lib.hid hp
    clear hp hok
    rw [if_pos rfl]
    go_enter Tryd.func35, Tryd.ntmps35
    go_wp2_with (fail)
    refine HP.out.mono ?_
    rintro e w1 ⟨rfl, hw1⟩
    go_wp2_with (fail)
    refine (HS.out _).mono ?_
    rintro e w2 ⟨A, c, rfl, hc, hm, hr, hw2, h0⟩
    go_wp2_with (fail)
    go_ret
    exact ⟨A, c, rfl, hc, hm, hr, hw1.trans (hw2.mono hw1.size), h0⟩

theorem splitM_length (s : List UInt8) : (splitM s).length ≤ 401 := by
  unfold splitM
  split
  · rename_i h
    have := pathOK_len h
    have := List.count_le_length (a := (47 : UInt8)) (l := s)
    rw [parts_length]; omega
  · simp
theorem Parent_ref (s : List UInt8) (w : World) (hs : s.length ≤ 8796093022200) :
    Calls Tryd.prog 14 #[.string ⟨s.toArray⟩] w (Ret w (.string ⟨(parentM s).toArray⟩)) := by
  have hS := Split_ref s w hs
  by_cases hok : pathOK s = true
  · by_cases h47 : 47 ∈ s
    · obtain ⟨p, q, rfl, hq⟩ := last_cut h47
      have hsp : splitM (p ++ 47 :: q) = parts p ++ [q] := by unfold splitM; rw [if_pos hok, parts_last p q hq]
      rw [hsp] at hS
      have hpar := parent_cut p q hq hok
      have hpn : 1 ≤ (parts p).length := by rw [parts_length]; omega
      have hpn2 := splitM_length (p ++ 47 :: q)
      rw [hsp, List.length_append, List.length_singleton] at hpn2
      have hll : (parts p ++ [q]).length = (parts p).length + 1 := by simp
      have hget : (strs (parts p ++ [q]))[(parts p).length]? = some (.string ⟨q.toArray⟩) := by
        simp [strs, strV]
      have htk : (p ++ 47 :: q).take p.length = p := by simp
      have hlen : ((p ++ 47 :: q).length : Int) = p.length + 1 + q.length := by simp; omega
      have h400 := pathOK_len hok
      have hq400 : p.length + 1 + q.length ≤ 400 := by simp at h400; omega
      unfold StrsOut at hS
      rw [hll] at hS
      generalize parts p = L at *
      have HS := Lib.hid hS
      have HPAR := Lib.hid hpar
      have HGET := Lib.hid hget
      clear hS hpar hok h47 hq hsp hget hll h400
      go_enter Tryd.func14, Tryd.ntmps14
      go_wp2_with (fail)
      refine HS.out.mono ?_
      rintro e w1 ⟨A, c, rfl, hc, hm, hr, hw1, hA0⟩
      obtain ⟨ad, rfl, hcell⟩ := hr.2 (by omega)
      have hc1 := hcell _ _ HGET.out
      have e1 : IntKind.i64.wrap ((L.length : Int) + 1 - 1) = (L.length : Int) := by rw [show (L.length : Int) + 1 - 1 = L.length by omega]; exact IntWalk.i64_in _ (by omega)
      have i1 : (L.length : Int) < (L.length : Int) + 1 := by omega
      clear hr hcell
      go_wp2_with (fail)
      go_ret
      exact ⟨by rw [HPAR.out]; simp; rw [show p.length + (q.length + 1) - q.length - 1 = p.length by omega]; exact htk, hw1⟩
    · have hsp : splitM s = [s] := by unfold splitM; rw [if_pos hok, parts_none s h47]
      rw [hsp] at hS
      rw [parent_none h47]
      have HS := Lib.hid hS
      clear hS hok h47 hsp
      go_enter Tryd.func14, Tryd.ntmps14
      go_wp2_with (fail)
      refine HS.out.mono ?_
      rintro e w1 ⟨A, c, rfl, hc, hm, hr, hw1, hA0⟩
      go_wp2_with (fail)
      go_ret
      exact ⟨rfl, hw1⟩
  · have hf : pathOK s = false := by simpa using hok
    have hsp : splitM s = [] := by unfold splitM; rw [hf]; rfl
    have hpar : parentM s = [] := by unfold parentM; rw [hf]; rfl
    rw [hsp] at hS
    rw [hpar]
    have HS := Lib.hid hS
    clear hS hok hf hsp hpar
    go_enter Tryd.func14, Tryd.ntmps14
    go_wp2_with (fail)
    refine HS.out.mono ?_
    rintro e w1 ⟨A, c, rfl, hc, hm, hr, hw1, hA0⟩
    go_wp2_with (fail)
    go_ret
    exact ⟨rfl, hw1⟩

end Go.Proofs.YtgppfcaghjbjmaaDoor
