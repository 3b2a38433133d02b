/- Plain: what a Send leaves, what acks leave. -/
import Derived.Test.YtknoedlelmflhaaMux5
import Derived.Test.YtknoedlelmflhaaPlainWhole
namespace Go.Proofs.Ytknoedlelmflhaa
open Go.RowKit Plain

def WayOK (win : Nat) (cs : List Snd) : Prop := ∀ c ∈ cs, wayC c ≤ win
theorem WayOK.set {win : Nat} {cs : List Snd} (h : WayOK win cs) (k : Nat) {c : Snd} (hc : wayC c ≤ win) : WayOK win (cs.set k c) := fun d hd => by
  rcases List.mem_or_eq_of_mem_set hd with hd | rfl
  · exact h d hd
  · exact hc
theorem WayOK.way {win : Nat} {cs : List Snd} (h : WayOK win cs) (n : Int) : wayP cs n ≤ win := by
  unfold wayP
  split
  · omega
  · rename_i hn
    rw [getD_get (by omega)]
    exact h _ (List.getElem_mem _)

/-- Acks are owed: 'rest' now, 'tl' later. -/
structure Acked (ts : List (List UInt8)) (r : Rcv) (tl : List (Nat × Nat)) (win u : Nat) (rest : List (Nat × Nat)) (cs : List Snd) : Prop where
  ok : AckOK (rest ++ tl) cs
  came : Came ts cs r
  units : Plain.units cs = u
  way : WayOK win cs
theorem Acked.step {ts : List (List UInt8)} {r : Rcv} {tl rest : List (Nat × Nat)} {win u k n : Nat} {cs : List Snd} (h : Acked ts r tl win u ((k, n) :: rest) cs) :
    (ackP cs (k : Nat) (n : Nat)).2 = 0 ∧ Acked ts r tl win u rest (ackP cs (k : Nat) (n : Nat)).1 := by
  obtain ⟨h1, h2, h3, h4⟩ := h.ok
  have he : ackP cs (k : Nat) (n : Nat) = (cs.set k { cs.getD k snd0 with a := n }, 0) := by
    unfold ackP
    rw [if_neg (by omega)]
    simp only [Int.toNat_natCast]
    rw [if_neg (by omega)]
  rw [he]
  refine ⟨rfl, h4, h.came.ack k n h1, by rw [units_ack cs k h1 n]; exact h.units, h.way.set k ?_⟩
  have h5 : wayC (cs.getD k snd0) ≤ win := by rw [getD_get h1]; exact h.way _ (List.getElem_mem h1)
  unfold wayC at h5 ⊢
  show (cs.getD k snd0).s - n ≤ win
  omega

theorem sent_case {ts : List (List UInt8)} {cs : List Snd} {r : Rcv} {acks : List (Nat × Nat)} {win size : Nat} (p : Int) (hcame : Came ts cs r) (hack : AckOK acks cs) (hok : OkS cs) (hway : WayOK win cs) (hleft : 0 < leftP cs) (hw1 : 1 ≤ win) (hs1 : 1 ≤ size) :
    ∃ (b : Bool) (i a : Nat) (t : List UInt8) (l : Bool) (cs1 : List Snd) (tl : List (Nat × Nat)) (r' : Rcv) (n : Nat), sendV win size cs p = .tuple #[frmV (i : Nat) (a : Nat) t l, .bool b] ∧ sendS win size cs p = cs1 ∧
      Acked ts r' tl win (units cs1) acks cs1 ∧ a ≤ 65536 ∧ t.length ≤ 65536 ∧
      (b = false → acks ≠ [] ∧ r' = r ∧ tl = [] ∧ units cs1 = units cs) ∧
      (b = true → units cs1 + 1 ≤ units cs ∧ tl = [(i, n)] ∧ takeP r (i : Nat) (a : Nat) t l = (r', n, 0) ∧ t.length ≤ size) := by
  by_cases hm : mays win cs cs.length = []
  · refine ⟨false, 0, 0, [], false, cs, [], r, 0, by simp only [sendV, if_pos hm]; rfl, by simp only [sendS, if_pos hm], ⟨by simpa using hack, hcame, rfl, hway⟩, by omega, by simp, fun _ => ⟨?_, rfl, rfl, rfl⟩, fun h => by cases h⟩
    rintro rfl
    exact acks_open hw1 hm hleft hack
  · obtain ⟨hi, hmay⟩ := pick_lt p hm
    generalize hpi : pickP win cs p = i at *
    have hg : cs.getD i snd0 = cs[i] := getD_get hi
    rw [hg] at hmay
    obtain ⟨o1, o2, o3⟩ := hok.at_ hi
    obtain ⟨h1, h2⟩ := hcame.sent hok (size := size) hi hmay
    have hu := units_set cs i hi (sentC win size cs[i])
    rw [hg] at hu
    have hu2 := unit_sent (hok.at_ hi) hmay hs1
    have hsz : sizeC win size cs[i] ≤ cs[i].t.length - cs[i].s ∧ sizeC win size cs[i] ≤ size ∧ sizeC win size cs[i] ≤ win - wayC cs[i] := by unfold sizeC; omega
    have hA : AckOK (acks ++ [(i, cs[i].s + sizeC win size cs[i])]) (cs.set i (sentC win size cs[i])) := by
      have := AckOK.sent acks cs i hi (cs[i].s + sizeC win size cs[i]) true (by rw [hg]; omega) (by rw [hg]; omega) hack
      rw [hg] at this
      exact this
    have hp : (pieceC win size cs[i]).length ≤ sizeC win size cs[i] := by simp [pieceC]; omega
    refine ⟨true, i, cs[i].s, pieceC win size cs[i], decide (cs[i].s + sizeC win size cs[i] = cs[i].t.length), cs.set i (sentC win size cs[i]), [(i, cs[i].s + sizeC win size cs[i])], (takeP r (i : Nat) (cs[i].s : Nat) (pieceC win size cs[i]) (decide (cs[i].s + sizeC win size cs[i] = cs[i].t.length))).1, cs[i].s + sizeC win size cs[i], ?_, ?_, ⟨hA, h1, rfl, hway.set i ?_⟩, by omega, by omega, (fun h => by cases h), fun _ => ⟨by omega, rfl, Prod.ext rfl h2, by omega⟩⟩
    · simp only [sendV, if_neg hm, hpi, hg]; rfl
    · simp only [sendS, if_neg hm, hpi, hg]
    · have := hway _ (List.getElem_mem hi)
      unfold wayC at *
      show cs[i].s + sizeC win size cs[i] - cs[i].a ≤ win
      omega
end Go.Proofs.Ytknoedlelmflhaa
