/- glob.Ignored. -/
import Derived.Test.YtgppfcaghjbjmaaDoorGlob9
namespace Go.Proofs.YtgppfcaghjbjmaaDoor
open Go.RowKit Plain

set_option maxHeartbeats 2000000 in
theorem Ignored_any (rules : List Rule) (A : Option Addr) (c : Nat) (s : List UInt8) (m : Int) (w : World) (hL : Laid w m) (hR : RulesAt w A rules) (hlen : rules.length ≤ 4294967296) (hs : s.length ≤ 9223372036854775807) :
    Calls Tryd.prog 13 #[.slice A rules.length c, .string ⟨s.toArray⟩] w (Ret w (.bool (ignG rules s))) := by
  have hP := Path_any s w hL.tabs
  cases hok : pathOK s with
  | false =>
    rw [hok] at hP
    have HP := Lib.hid hP
    have HI := Lib.hid (show ignG rules s = false by unfold ignG; rw [hok]; rfl)
    clear hP hok hL hR hlen hs
    go_enter Tryd.func13, Tryd.ntmps13
    go_wp2_with (fail)
    refine HP.out.mono ?_
    rintro e w1 ⟨rfl, hw1⟩
    go_wp2_with (fail)
    go_ret
    exact ⟨by rw [HI.out]; rfl, hw1⟩
  | true =>
    rw [hok] at hP
    have HP := Lib.hid hP
    have HLA := Lib.hid (fun q W (h : Below w.heap.size w W) (_ : q.length ≤ s.length) => last_any rules A c q m W (hL.below h) (hR.below h) hlen)
    have HPA := Lib.hid (fun q W (h : Below w.heap.size w W) (hq : q.length ≤ s.length) => Parent_any q W (hL.below h).tabs (by omega))
    have HNE := Lib.hid (pathOK_ne hok)
    have HOK := Lib.hid hok
    clear hP hok hL hR hlen hs
    go_enter Tryd.func13, Tryd.ntmps13
    go_wp2_with (fail)
    refine HP.out.mono ?_
    rintro e w1 ⟨rfl, hw1⟩
    have HB1 := Lib.hid hw1
    clear hw1
    go_wp2_with (fail)
    go_loopw [5] (fun t5 W => ∃ q : List UInt8, t5 = .string ⟨q.toArray⟩ ∧ q.length ≤ s.length ∧ Hid ((q = [] → ignG rules s = false) ∧ (q ≠ [] → pathOK q = true ∧ ignG rules s = ignG rules q)) ∧ Hid (Below w.heap.size w W)) (fun t5 _ => strLenG t5)
    case atStart => exact ⟨s, rfl, Nat.le_refl _, Lib.hid ⟨fun e => absurd e HNE.out, fun _ => ⟨HOK.out, rfl⟩⟩, HB1⟩
    case round =>
      clear HB1 HNE HOK
      obtain ⟨q, rfl, hql, HQ, HB⟩ := hrel
      by_cases hq0 : q = []
      · have HI := Lib.hid (HQ.out.1 hq0)
        subst hq0
        go_wp2_with (fail)
        go_ret
        exact ⟨by rw [HI.out]; rfl, HB.out⟩
      · obtain ⟨hqok, hqi⟩ := HQ.out.2 hq0
        have hne : q.isEmpty = false := by cases q; exact absurd rfl hq0; rfl
        have hst := ignG_step rules hqok
        have hLQ := HLA.out q wr HB.out hql
        cases hlg : lastG rules q with
        | true =>
          rw [hlg] at hLQ hst
          have HLQ := Lib.hid hLQ
          have HI := Lib.hid (show ignG rules s = true by rw [hqi, hst]; rfl)
          clear hLQ hst hqi hqok hq0 hlg
          go_wp2_with (fail)
          refine HLQ.out.mono ?_
          rintro e w2 ⟨rfl, hw2⟩
          go_wp2_with (fail)
          go_ret
          exact ⟨by rw [HI.out]; rfl, HB.out.trans (hw2.mono HB.out.size)⟩
        | false =>
          rw [hlg, Bool.false_or] at hst
          rw [hlg] at hLQ
          have HLQ := Lib.hid hLQ
          have hpl : (parentM q).length < q.length := by
            by_cases e : parentM q = []
            · rw [e]; exact List.length_pos_iff.2 hq0
            · exact parent_shorter hqok e
          have HN := Lib.hid (show (parentM q = [] → ignG rules s = false) ∧ (parentM q ≠ [] → pathOK (parentM q) = true ∧ ignG rules s = ignG rules (parentM q)) from
            ⟨fun e => by rw [hqi, hst, if_pos e], fun e => ⟨parent_ok hqok e, by rw [hqi, hst, if_neg e]⟩⟩)
          have HPQ := Lib.hid (fun W h => HPA.out q W h hql)
          clear hLQ hst hqi hqok hq0 hlg
          generalize parentM q = pq at *
          go_wp2_with (fail)
          refine HLQ.out.mono ?_
          rintro e w2 ⟨rfl, hw2⟩
          have hB2 := HB.out.trans (hw2.mono HB.out.size)
          clear hw2
          go_wp2_with (fail)
          refine (HPQ.out _ hB2).mono ?_
          rintro e w3 ⟨rfl, hw3⟩
          have HB3 := Lib.hid (hB2.trans (hw3.mono hB2.size))
          clear hw3 hB2
          go_wp2_with (fail)
          go_roundw
          case rel => exact ⟨pq, rfl, by omega, HN, HB3⟩
          case measure => simp [strLenG, ByteArray.size]; exact hpl
end Go.Proofs.YtgppfcaghjbjmaaDoor
