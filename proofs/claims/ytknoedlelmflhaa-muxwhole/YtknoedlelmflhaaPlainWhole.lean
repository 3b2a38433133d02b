/- Plain: whatever is picked all texts come whole. -/
import Derived.Test.YtknoedlelmflhaaPlain16
namespace Go.Proofs.Ytknoedlelmflhaa.Plain

theorem set_set_ne {α : Type} {l : List α} {i j : Nat} (h : i ≠ j) (x y : α) : (l.set i x).set j y = (l.set j y).set i x := (List.set_comm x y h)

/-- All acks that are open fit, one behind the other, and then all that was sent is acked. -/
def AckOK : List (Nat × Nat) → List Snd → Prop
  | [], cs => ∀ c ∈ cs, c.a = c.s
  | (k, n) :: rest, cs => k < cs.length ∧ (cs.getD k snd0).a ≤ n ∧ n ≤ (cs.getD k snd0).s ∧ AckOK rest (cs.set k { cs.getD k snd0 with a := n })

theorem AckOK.sent : ∀ (acks : List (Nat × Nat)) (cs : List Snd) (i : Nat) (hi : i < cs.length) (s' : Nat) (b' : Bool), (cs.getD i snd0).s ≤ s' → (cs.getD i snd0).a ≤ (cs.getD i snd0).s → AckOK acks cs →
    AckOK (acks ++ [(i, s')]) (cs.set i { cs.getD i snd0 with s := s', b := b' })
  | [], cs, i, hi, s', b', hs, ha, h => by
    simp only [List.nil_append, AckOK]
    refine ⟨by simpa using hi, ?_, ?_, ?_⟩
    · rw [getD_get (by simpa using hi)]; simp only [List.getElem_set_self]; omega
    · rw [getD_get (by simpa using hi)]; simp only [List.getElem_set_self]; omega
    · intro c hc
      rw [getD_get (show i < (cs.set i { cs.getD i snd0 with s := s', b := b' }).length by simpa using hi)] at hc
      simp only [List.getElem_set_self, List.set_set] at hc
      rcases List.mem_or_eq_of_mem_set hc with hc | rfl
      · exact h c hc
      · rfl
  | (k, n) :: rest, cs, i, hi, s', b', hs, ha, h => by
    obtain ⟨h1, h2, h3, h4⟩ := h
    simp only [List.cons_append, AckOK]
    refine ⟨by simpa using h1, ?_, ?_, ?_⟩
    · by_cases hik : i = k
      · subst hik
        rw [getD_get (by simpa using hi)]; simp only [List.getElem_set_self]; exact h2
      · rw [getD_get (by simpa using h1), List.getElem_set_ne hik, ← getD_get (d := snd0) h1]; exact h2
    · by_cases hik : i = k
      · subst hik
        rw [getD_get (by simpa using hi)]; simp only [List.getElem_set_self]; omega
      · rw [getD_get (by simpa using h1), List.getElem_set_ne hik, ← getD_get (d := snd0) h1]; exact h3
    · have ih := AckOK.sent rest (cs.set k { cs.getD k snd0 with a := n }) i (by simpa using hi) s' b'
      by_cases hik : i = k
      · subst hik
        have e : (cs.set i { cs.getD i snd0 with a := n }).getD i snd0 = { cs.getD i snd0 with a := n } := by
          rw [getD_get (by simpa using hi)]; simp only [List.getElem_set_self]
        rw [e] at ih
        have e2 : (cs.set i { cs.getD i snd0 with s := s', b := b' }).getD i snd0 = { cs.getD i snd0 with s := s', b := b' } := by
          rw [getD_get (by simpa using hi)]; simp only [List.getElem_set_self]
        rw [e2]
        simp only [List.set_set] at ih ⊢
        exact ih hs h3 h4
      · have e : (cs.set k { cs.getD k snd0 with a := n }).getD i snd0 = cs.getD i snd0 := by
          rw [getD_get (by simpa using hi), List.getElem_set_ne (Ne.symm hik), ← getD_get (d := snd0) hi]
        have e2 : (cs.set i { cs.getD i snd0 with s := s', b := b' }).getD k snd0 = cs.getD k snd0 := by
          rw [getD_get (by simpa using h1), List.getElem_set_ne hik, ← getD_get (d := snd0) h1]
        rw [e] at ih
        rw [e2, set_set_ne hik]
        exact ih hs ha h4

/-- what is left to be sent of a call -/
def unitC (c : Snd) : Nat := if waitsB c then max 1 (c.t.length - c.s) else 0
def units (cs : List Snd) : Nat := (cs.map unitC).sum
theorem units_set (cs : List Snd) (i : Nat) (hi : i < cs.length) (c : Snd) : units (cs.set i c) + unitC (cs.getD i snd0) = units cs + unitC c := by
  unfold units
  induction cs generalizing i with
  | nil => simp at hi
  | cons d cs ih =>
    cases i with
    | zero => simp [List.getD]; omega
    | succ i =>
      have := ih i (by simpa using hi)
      simp only [List.set_cons_succ, List.map_cons, List.sum_cons, List.getD_cons_succ] at this ⊢
      omega
theorem units_ack (cs : List Snd) (i : Nat) (hi : i < cs.length) (n : Nat) : units (cs.set i { cs.getD i snd0 with a := n }) = units cs := by
  have h := units_set cs i hi { cs.getD i snd0 with a := n }
  have e : unitC { cs.getD i snd0 with a := n } = unitC (cs.getD i snd0) := rfl
  rw [e] at h
  omega
theorem unit_sent {win size : Nat} {c : Snd} (hok : okC c) (hm : mayB win c = true) (hs : 1 ≤ size) : unitC (sentC win size c) < unitC c := by
  obtain ⟨h1, h2, h3⟩ := hok
  simp only [mayB, Bool.and_eq_true, decide_eq_true_eq] at hm
  obtain ⟨hw, hy⟩ := hm
  have hu : unitC c = max 1 (c.t.length - c.s) := by unfold unitC; rw [if_pos hw]
  rw [hu]
  unfold unitC
  by_cases hc : c.s < c.t.length
  · have hsz : 1 ≤ sizeC win size c := by unfold sizeC; omega
    split
    · rename_i hw'
      have h4 : c.s + sizeC win size c < c.t.length := by
        simp only [waitsB, sentC, Bool.not_true, Bool.and_false, Bool.or_false] at hw'
        exact of_decide_eq_true hw'
      show max 1 (c.t.length - (c.s + sizeC win size c)) < _
      omega
    · omega
  · simp only [waitsB, hc, decide_false, Bool.false_or, Bool.and_eq_true] at hw
    have ht : c.t = [] := by simpa using hw.1
    have : waitsB (sentC win size c) = false := by simp [waitsB, sentC, ht]
    rw [this]
    simp only [Bool.false_eq_true, if_false]
    omega
/-- Nobody may send, and some wait: then acks are open. -/
theorem acks_open {win : Nat} {cs : List Snd} (hw : 1 ≤ win) (hm : mays win cs cs.length = []) (hl : 0 < leftP cs) : ¬ AckOK [] cs := by
  intro h
  obtain ⟨c, hc⟩ := List.exists_mem_of_length_pos hl
  rw [List.mem_filter] at hc
  obtain ⟨i, hi, rfl⟩ := List.mem_iff_getElem.1 hc.1
  have hin : i ∈ mays win cs cs.length := mays_mem.2 ⟨hi, by
    rw [getD_get hi]
    rw [mayB, hc.2, Bool.true_and]
    have h5 := h _ hc.1
    exact decide_eq_true (by unfold wayC; omega)⟩
  rw [hm] at hin
  cases hin

/-- What has come is a beginning of the text. -/
def Came (ts : List (List UInt8)) (cs : List Snd) (r : Rcv) : Prop :=
  cs.length = ts.length ∧ ∀ k (h : k < cs.length) (h' : k < ts.length), cs[k].t = ts[k] ∧ (0 < cs[k].s → cs[k].b = true) ∧ r.f k = (ts[k].take cs[k].s, cs[k].b && decide (cs[k].s = ts[k].length))
/-- the piece that is sent -/
def pieceC (win size : Nat) (c : Snd) : List UInt8 := (c.t.drop c.s).take (sizeC win size c)
theorem Came.takes {ts : List (List UInt8)} {cs : List Snd} {r : Rcv} (h : Came ts cs r) (hok : OkS cs) {win size i : Nat} (hi : i < cs.length) (hm : mayB win cs[i] = true) :
    takes r (i : Nat) (cs[i].s : Nat) (pieceC win size cs[i]) = true := by
  have hl := hok.1
  obtain ⟨o1, o2, o3⟩ := hok.at_ hi
  obtain ⟨ht, hb, hf⟩ := h.2 i hi (by rw [← h.1]; exact hi)
  rw [← ht] at hf
  have hw : waitsB cs[i] = true := by simp only [mayB, Bool.and_eq_true] at hm; exact hm.1
  have hd : (r.f i).2 = false := by
    rw [hf]
    simp only [waitsB, Bool.or_eq_true, Bool.and_eq_true] at hw
    rcases hw with hw | hw
    · have : ¬ cs[i].s = cs[i].t.length := by have := of_decide_eq_true hw; omega
      simp [this]
    · have : cs[i].b = false := by simpa using hw.2
      simp [this]
  have hlen : (r.f i).1.length = cs[i].s := by rw [hf]; simp; omega
  have hp : (pieceC win size cs[i]).length ≤ cs[i].t.length - cs[i].s := by simp [pieceC]; omega
  have e1 : decide ((i : Int) < 0) = false := decide_eq_false (by omega)
  have e2 : decide ((64 : Int) ≤ i) = false := decide_eq_false (by omega)
  have e3 : decide ((cs[i].s : Int) ≠ ((r.f i).1.length : Nat)) = false := decide_eq_false (by omega)
  have e4 : decide (65536 - ((r.f i).1.length : Int) < (pieceC win size cs[i]).length) = false := decide_eq_false (by omega)
  unfold Plain.takes
  simp only [Int.toNat_natCast]
  rw [hd, e1, e2, e3, e4]
  rfl
theorem Came.sent {ts : List (List UInt8)} {cs : List Snd} {r : Rcv} (h : Came ts cs r) (hok : OkS cs) {win size i : Nat} (hi : i < cs.length) (hm : mayB win cs[i] = true) :
    Came ts (cs.set i (sentC win size cs[i])) (takeP r (i : Nat) (cs[i].s : Nat) (pieceC win size cs[i]) (decide (cs[i].s + sizeC win size cs[i] = cs[i].t.length))).1 ∧
    (takeP r (i : Nat) (cs[i].s : Nat) (pieceC win size cs[i]) (decide (cs[i].s + sizeC win size cs[i] = cs[i].t.length))).2 = (cs[i].s + sizeC win size cs[i], 0) := by
  have htk := h.takes hok (size := size) hi hm
  obtain ⟨o1, o2, o3⟩ := hok.at_ hi
  obtain ⟨ht, hb, hf⟩ := h.2 i hi (by rw [← h.1]; exact hi)
  have hn : sizeC win size cs[i] ≤ cs[i].t.length - cs[i].s := by unfold sizeC; omega
  have htext : (r.f i).1 ++ pieceC win size cs[i] = cs[i].t.take (cs[i].s + sizeC win size cs[i]) := by
    rw [hf, ← ht, pieceC, List.take_add]
  have he : takeP r (i : Nat) (cs[i].s : Nat) (pieceC win size cs[i]) (decide (cs[i].s + sizeC win size cs[i] = cs[i].t.length)) =
      (⟨fun k => if k = i then (cs[i].t.take (cs[i].s + sizeC win size cs[i]), decide (cs[i].s + sizeC win size cs[i] = cs[i].t.length)) else r.f k, if decide (cs[i].s + sizeC win size cs[i] = cs[i].t.length) then r.d ++ [i] else r.d⟩, cs[i].s + sizeC win size cs[i], 0) := by
    unfold takeP
    rw [htk]
    simp only [if_true, Int.toNat_natCast, htext]
    congr 1
    simp; omega
  rw [he]
  refine ⟨⟨by simpa using h.1, fun k hk hk' => ?_⟩, rfl⟩
  have hk2 : k < cs.length := by simpa using hk
  by_cases hki : k = i
  · subst hki
    simp only [List.getElem_set_self, if_true]
    refine ⟨ht, fun _ => rfl, ?_⟩
    show _ = (ts[k].take (cs[k].s + sizeC win size cs[k]), true && decide (cs[k].s + sizeC win size cs[k] = ts[k].length))
    rw [← ht]; simp
  · simp only [List.getElem_set_ne (Ne.symm hki), if_neg hki]
    exact h.2 k hk2 hk'
theorem Came.ack {ts : List (List UInt8)} {cs : List Snd} {r : Rcv} (h : Came ts cs r) (k n : Nat) (hk : k < cs.length) : Came ts (cs.set k { cs.getD k snd0 with a := n }) r := by
  refine ⟨by simpa using h.1, fun j hj hj' => ?_⟩
  have hj2 : j < cs.length := by simpa using hj
  by_cases hjk : j = k
  · subst hjk
    simp only [List.getElem_set_self, getD_get hk]
    exact h.2 j hj2 hj'
  · simp only [List.getElem_set_ne (Ne.symm hjk)]
    exact h.2 j hj2 hj'
/-- Nobody waits: all has come. -/
theorem Came.whole {ts : List (List UInt8)} {cs : List Snd} {r : Rcv} (h : Came ts cs r) (hok : OkS cs) (hl : leftP cs = 0) {k : Nat} (hk : k < ts.length) : textP r (k : Nat) = (ts[k], true) := by
  have hk2 : k < cs.length := by rw [h.1]; exact hk
  have := hok.1
  obtain ⟨o1, o2, o3⟩ := hok.at_ hk2
  obtain ⟨ht, hb, hf⟩ := h.2 k hk2 hk
  have hw : waitsB cs[k] = false := by
    cases hw : waitsB cs[k] with
    | false => rfl
    | true =>
      have : cs[k] ∈ cs.filter waitsB := List.mem_filter.2 ⟨List.getElem_mem hk2, hw⟩
      rw [List.eq_nil_of_length_eq_zero hl] at this
      cases this
  simp only [waitsB, Bool.or_eq_false_iff, Bool.and_eq_false_iff] at hw
  obtain ⟨w1, w2⟩ := hw
  have w1 := of_decide_eq_false w1
  have hs : cs[k].s = cs[k].t.length := by omega
  have hbt : cs[k].b = true := by
    rcases w2 with w2 | w2
    · refine hb ?_
      rw [hs]
      cases htt : cs[k].t with
      | nil => rw [htt] at w2; cases w2
      | cons => simp
    · simpa using w2
  unfold textP
  rw [if_neg (by omega)]
  simp only [Int.toNat_natCast]
  rw [hf, ← ht, hbt, hs]
  simp
end Go.Proofs.Ytknoedlelmflhaa.Plain
