/- A region that draws its order: a head whose operations each yield one value in every world of a class, and behind it a rest in whatever order. -/
import Derived.Test.YtgohhhfnffhgmaaQuietTail
namespace Go.Proofs.Ytgohhhfnffhgmaa
open Go.RowKit

/-- Each operation of the rest waits for the head's last one, or for one of the rest ahead of it. -/
def restB (md : Region.Mode) (ops : Array Oper) (n : Nat) : Bool :=
  (List.range ops.size).all fun t => decide (t ≤ n) || (List.range t).any fun j => decide (n ≤ j) && Region.waitsFor md ops t j
def finL (n m : Nat) : Array Bool := (List.replicate n true ++ List.replicate (m - n) false).toArray
def lexTo (md : Region.Mode) (ops : Array Oper) (fin : Array Bool) : Nat → Nat → Array Bool → Bool
  | 0, _, listed => decide (listed = fin)
  | f + 1, k, listed => (Region.ready md ops listed).contains k && Region.free md ops listed k && lexTo md ops fin f (k + 1) (listed.setIfInBounds k true)
/-- n is the head's last operation. -/
def quietRestB (md : Region.Mode) (ops : Array Oper) (n : Nat) : Bool :=
  Region.noSelect ops && decide (n + 1 < ops.size) && Region.sinkB md ops n && restB md ops n && lexTo md ops (finL (n + 1) ops.size) (n + 1) 0 (Array.replicate ops.size false) && (Region.ready md ops (finL (n + 1) ops.size)).all (fun j => decide (n + 1 ≤ j))

section
variable {P : Program} {ops : Array Oper} {md : Region.Mode} {C : World → Prop}
theorem rest_waits {n : Nat} {listed : Array Bool} (hc : restB md ops n = true) (inv : HeadInv md ops (n + 1) listed) (hnl : listed.getD n true = false) :
    ∀ t, n < t → t ∉ Region.ready md ops listed := by
  intro t
  induction t using Nat.strongRecOn with
  | _ t ih =>
    intro ht hr
    obtain ⟨hun, ot, hot, hall⟩ := mem_ready.1 hr
    have htlt : t < ops.size := (Array.getElem?_eq_some_iff.1 hot).1
    have h1 := List.all_eq_true.1 hc t (List.mem_range.2 htlt)
    simp only [Bool.or_eq_true, decide_eq_true_eq] at h1
    rcases h1 with h1 | h1
    · omega
    · obtain ⟨j, hj, hj2⟩ := List.any_eq_true.1 h1
      simp only [Bool.and_eq_true, decide_eq_true_eq] at hj2
      obtain ⟨o', ho', e, he, hb, hon⟩ := Region.waitsFor_spec hj2.2
      have : o' = ot := Option.some.inj (ho'.symm.trans hot)
      subst this
      have h2 := hall e he hb
      have hjt := List.mem_range.1 hj
      rw [hon] at h2
      by_cases hjn : j = n
      · subst hjn
        rw [getD_both hnl] at h2; cases h2
      · rw [getD_both (inv.tail j (by omega) (by omega))] at h2; cases h2
theorem sink_last {n : Nat} {listed : Array Bool} (hs : Region.sinkB md ops n = true) (hn : n < ops.size) (inv : HeadInv md ops (n + 1) listed) : ∀ (d i : Nat), n - i = d → i ≤ n → listed.getD i true = false → listed.getD n true = false := by
  intro d
  induction d using Nat.strongRecOn with
  | _ d ih =>
    intro i hd hi hun
    by_cases hin : i = n
    · subst hin; exact hun
    · have h1 := List.all_eq_true.1 hs i (List.mem_range.2 (by omega))
      obtain ⟨j, hj, hj2⟩ := List.any_eq_true.1 h1
      simp only [Bool.and_eq_true, decide_eq_true_eq] at hj2
      obtain ⟨oj, hoj, e, he, hb, hon⟩ := Region.waitsFor_spec hj2.2
      have hjle := List.mem_range.1 hj
      have hjs : j < listed.size := by rw [inv.size]; omega
      cases hl : listed.getD j false with
      | true =>
        have h2 := inv.closed j oj hoj hl e he hb
        rw [hon, getD_both hun] at h2
        cases h2
      | false => exact ih (n - j) (by omega) j rfl (by omega) (getD_in hjs hl)

theorem wpAnyQR_first {n i : Nat} {oi : Oper} {v : Value} {L : Array Bool → Act → Prop} {G : Array Bool → Prop} (hG : ∀ listed j, G listed → G (listed.setIfInBounds j true)) (hi : ops[i]? = some oi) (hsel : ∀ (j : Nat) (o : Oper) cs b, ops[j]? = some o → o.op ≠ .select cs b)
    (hw : ∀ listed, HeadInv md ops n listed → G listed → ∀ i, i < n → listed.getD i true = false → ∀ t, n ≤ t → t ∉ Region.ready md ops listed) (hin : i < n)
    (hdone : ∀ listed a, L listed a → ∀ j ∈ Region.ready md ops listed, n ≤ j) :
    ∀ (f : Nat) (listed : Array Bool) (a : Act), HeadInv md ops n listed → G listed →
      (∀ j oj, ops[j]? = some oj → j ≠ i → listed.getD j true = false → (∀ e ∈ oj.after, Region.binds md e = true → e.on ≠ i) → oi.apart ops oj = true) →
      i ∈ Region.ready md ops listed → YieldsIn P ops C oi v a →
      wpAnyQL P md ops C n L f (listed.setIfInBounds i true) (a.put oi.dst v) → wpAnyQL P md ops C n L (f + 1) listed a := by
  intro f
  induction f with
  | zero =>
    intro listed a inv g _ hr hy H
    have hun := (mem_ready.1 hr).1
    refine ⟨fun h => (by rw [h] at hr; cases hr), fun j hj => ?_⟩
    have hjn : j < n := by
      rcases Nat.lt_or_ge j n with h | h
      · exact h
      · exact absurd hj (hw listed inv g i hin hun j h)
    refine ⟨hjn, ?_⟩
    by_cases hji : j = i
    · subst hji; exact hy.qOp hi H
    · have := hdone _ _ H j (ready_mono hj hji)
      omega
  | succ f ih =>
    intro listed a inv g hfree hr hy H
    have hun := (mem_ready.1 hr).1
    refine ⟨fun h => (by rw [h] at hr; cases hr), fun j hj => ?_⟩
    have hjn : j < n := by
      rcases Nat.lt_or_ge j n with h | h
      · exact h
      · exact absurd hj (hw listed inv g i hin hun j h)
    refine ⟨hjn, ?_⟩
    by_cases hji : j = i
    · subst hji; exact hy.qOp hi H
    · have h1 := (H.2 j (ready_mono hj hji)).2
      obtain ⟨hjun, oj, hoj, hall⟩ := mem_ready.1 hj
      have hnot : ∀ e ∈ oj.after, Region.binds md e = true → e.on ≠ i := fun e he hb heq => by
        have h1 := hall e he hb
        rw [heq, getD_both hun] at h1
        cases h1
      have h2 := qOp_put hoj (hfree j oj hoj hji hjun hnot) (fun cs b => hsel i oi cs b hi) (fun cs b => hsel j oj cs b hoj) hy h1
      have hfree' : ∀ k ok, ops[k]? = some ok → k ≠ i → (listed.setIfInBounds j true).getD k true = false →
          (∀ e ∈ ok.after, Region.binds md e = true → e.on ≠ i) → oi.apart ops ok = true := fun k ok hk hki hun hno => by
        refine hfree k ok hk hki ?_ hno
        by_cases hjk : j = k
        · subst hjk; exact hjun
        · rw [getD_set_ne true hjk] at hun; exact hun
      refine qOp_mono (fun a' h3 => ih (listed.setIfInBounds j true) a' (inv.set hj hjn) (hG _ _ g) hfree' (ready_mono hr (Ne.symm hji)) h3.1 ?_) h2
      rw [Array.setIfInBounds_comm _ _ hji]
      exact h3.2

theorem wpAnyQR_lex {n : Nat} {fin : Array Bool} {Lq : Act → Prop} {G : Array Bool → Prop} (hG : ∀ listed j, G listed → G (listed.setIfInBounds j true)) (hsel : Region.noSelect ops = true) (hw : ∀ listed, HeadInv md ops n listed → G listed → ∀ i, i < n → listed.getD i true = false → ∀ t, n ≤ t → t ∉ Region.ready md ops listed)
    (hf : ∀ j ∈ Region.ready md ops fin, n ≤ j) :
    ∀ (l : List Oper) (k : Nat) (listed : Array Bool) (a : Act), (∀ j, j < l.length → l[j]? = ops[k + j]?) → k + l.length = n → HeadInv md ops n listed → G listed →
    lexTo md ops fin l.length k listed = true → wpQuiet P ops C Lq l a →
    wpAnyQL P md ops C n (fun listed' a' => listed' = fin ∧ Lq a') l.length listed a
  | [], k, listed, a, _, hk, _, _, hB, h => ⟨by simpa [lexTo] using hB, h⟩
  | o :: l, k, listed, a, hl, hk, inv, g, hB, h => by
    have h0 : ops[k]? = some o := by simpa using (hl 0 (by simp)).symm
    simp only [List.length_cons, lexTo, Bool.and_eq_true] at hB
    obtain ⟨⟨hr, hfr⟩, hB'⟩ := hB
    have hkn : k < n := by simp only [List.length_cons] at hk; omega
    have hr' : k ∈ Region.ready md ops listed := by simpa using hr
    have hst : qOp P ops C k (wpQuiet P ops C Lq l) a := by unfold qOp; simp only [h0]; exact h
    obtain ⟨v, hy, hK⟩ := yieldsIn_of_qOp h0 hst
    exact wpAnyQR_first hG h0 (Region.noSelect_spec hsel) hw hkn (fun listed' a' hL => by rw [hL.1]; exact hf) l.length listed a inv g (Region.free_spec h0 hfr) hr' hy
      (wpAnyQR_lex hG hsel hw hf l (k + 1) _ _ (fun j hj => by have := hl (j + 1) (by simp; omega); simpa [Nat.add_assoc, Nat.add_comm 1 j] using this) (by simp only [List.length_cons] at hk; omega) (inv.set hr' hkn) (hG _ _ g) hB' hK)
end

/-- The head: loads, and calls that keep old memory (its last operation: n); the rest: in whatever order. -/
theorem wp_region_quiet_rest {P : Program} {id : Nat} {Q : Exit → Act → World → Prop} {a : Act} {w : World} {l : List Oper} (n : Nat) (hm : P.follows .mixedOrders = true) (hB : quietRestB .any l.toArray n = true)
    (h : wpQuiet P l.toArray (fun W => Below w.heap.size w W) (fun a' => ∀ W, Below w.heap.size w W → wpAny P .any l.toArray Q (l.length - (n + 1)) (finL (n + 1) l.length) a' W) (l.take (n + 1)) a) : (Code.region id l.toArray true).wp P Q a w := by
  simp only [quietRestB, Bool.and_eq_true, decide_eq_true_eq] at hB
  obtain ⟨⟨⟨⟨⟨hsel, hn⟩, hs⟩, hc⟩, hlex⟩, hall⟩ := hB
  have hn' : n + 1 < l.length := by simpa using hn
  have htl : (l.take (n + 1)).length = n + 1 := by simp; omega
  have inv0 : HeadInv .any l.toArray (n + 1) (Array.replicate l.toArray.size false) :=
    ⟨by simp, fun j oj _ hl => (by rw [getD_replicate_false] at hl; cases hl), fun t _ ht => getD_in (by simpa using ht) (getD_replicate_false _ _)⟩
  have hsz : l.toArray.size = l.length := by simp
  rw [hsz] at hlex hall
  have H := wpAnyQR_lex (md := .any) (G := fun _ => True) (fun _ _ _ => trivial) hsel (fun listed inv _ i hi hun t ht => rest_waits hc inv (sink_last hs (by omega) inv _ i rfl (by omega) hun) t (by omega)) (fun j hj => by have := List.all_eq_true.1 hall j hj; simpa using this) (l.take (n + 1)) 0 _ a (fun j hj => by
    have hj' : j < n + 1 := by rw [htl] at hj; exact hj
    simp [hj']) (by simpa using htl) inv0 trivial (by rw [htl, hsz]; exact hlex) h
  refine wp_region_any hm ?_
  have := wpAny_of_qhead (Q' := Q) (g := l.length - (n + 1)) (fun listed a' W hW hL => by
    rw [hL.1]; exact hL.2 W hW) _ _ _ { w with drawn := w.drawn + 1 } ⟨rfl, rfl, rfl, Nat.le_refl _, fun _ _ => rfl⟩ H
  rw [htl, show n + 1 + (l.length - (n + 1)) = l.toArray.size by rw [hsz]; omega] at this
  exact this

/-- The same, where the first operation (one that asks no world) is taken ahead, and only the rest waits for it. -/
def quietRest1B (md : Region.Mode) (ops : Array Oper) (n : Nat) : Bool :=
  Region.noSelect ops && decide (n + 1 < ops.size) && ((List.range n).all fun i => decide (i = 0) || (List.range (n + 1)).any fun j => decide (i < j) && Region.waitsFor md ops j i) && restB md ops n &&
    lexTo md ops (finL (n + 1) ops.size) n 1 ((Array.replicate ops.size false).setIfInBounds 0 true) && (Region.ready md ops (finL (n + 1) ops.size)).all (fun j => decide (n + 1 ≤ j)) &&
    Region.free md ops (Array.replicate ops.size false) 0 && (Region.ready md ops (Array.replicate ops.size false)).contains 0
theorem sink_last1 {md : Region.Mode} {ops : Array Oper} {n : Nat} {listed : Array Bool} (hs : ((List.range n).all fun i => decide (i = 0) || (List.range (n + 1)).any fun j => decide (i < j) && Region.waitsFor md ops j i) = true) (hn : n < ops.size) (inv : HeadInv md ops (n + 1) listed) :
    ∀ (d i : Nat), n - i = d → 1 ≤ i → i ≤ n → listed.getD i true = false → listed.getD n true = false := by
  intro d
  induction d using Nat.strongRecOn with
  | _ d ih =>
    intro i hd h1i hi hun
    by_cases hin : i = n
    · subst hin; exact hun
    · have h1 := List.all_eq_true.1 hs i (List.mem_range.2 (by omega))
      simp only [Bool.or_eq_true, decide_eq_true_eq] at h1
      rcases h1 with h1 | h1
      · omega
      obtain ⟨j, hj, hj2⟩ := List.any_eq_true.1 h1
      simp only [Bool.and_eq_true, decide_eq_true_eq] at hj2
      obtain ⟨oj, hoj, e, he, hb, hon⟩ := Region.waitsFor_spec hj2.2
      have hjle := List.mem_range.1 hj
      have hjs : j < listed.size := by rw [inv.size]; omega
      cases hl : listed.getD j false with
      | true =>
        have h2 := inv.closed j oj hoj hl e he hb
        rw [hon, getD_both hun] at h2
        cases h2
      | false => exact ih (n - j) (by omega) j rfl (by omega) (by omega) (getD_in hjs hl)
theorem wp_region_move_quiet_rest {P : Program} {id : Nat} {Q : Exit → Act → World → Prop} {a : Act} {w : World} {l : List Oper} {o0 : Oper} {v0 : Value} (d : Nat) (n : Nat) (hm : P.follows .mixedOrders = true) (hB : quietRest1B .any l.toArray n = true)
    (h0 : l.toArray[0]? = some o0) (hd : o0.dst = some d) (hQ : ∀ c a w, Q (.panic c) (a.put o0.dst v0) w → Q (.panic c) a w) (hy : Yields P l.toArray o0 v0 a)
    (h : wpQuiet P l.toArray (fun W => Below w.heap.size w W) (fun a' => ∀ W, Below w.heap.size w W → wpAny P .any l.toArray Q (l.length - (n + 1)) (finL (n + 1) l.length) a' W) ((l.take (n + 1)).drop 1) (a.put (some d) v0)) : (Code.region id l.toArray true).wp P Q a w := by
  rw [← hd] at h
  simp only [quietRest1B, Bool.and_eq_true, decide_eq_true_eq] at hB
  obtain ⟨⟨⟨⟨⟨⟨⟨hsel, hn⟩, hs⟩, hc⟩, hlex⟩, hall⟩, hfree⟩, hready⟩ := hB
  have hn' : n + 1 < l.length := by simpa using hn
  have htl : ((l.take (n + 1)).drop 1).length = n := by simp; omega
  have inv0 : HeadInv .any l.toArray (n + 1) (Array.replicate l.toArray.size false) :=
    ⟨by simp, fun j oj _ hl => (by rw [getD_replicate_false] at hl; cases hl), fun t _ ht => getD_in (by simpa using ht) (getD_replicate_false _ _)⟩
  have hr0 : 0 ∈ Region.ready .any l.toArray (Array.replicate l.toArray.size false) := by simpa using hready
  have inv1 := inv0.set hr0 (by omega)
  have hsz : l.toArray.size = l.length := by simp
  rw [hsz] at hlex hall inv1
  rw [hsz] at hfree hready
  have H := wpAnyQR_lex (md := .any) (G := fun listed => listed.getD 0 true = true) (fun listed j g => by
      by_cases hj : j = 0
      · subst hj
        by_cases hs : 0 < listed.size
        · simp [Array.getD, hs]
        · simp [Array.getD, hs]
      · rw [getD_set_ne true hj]; exact g) hsel (n := n + 1) (fun listed inv g i hi hun t ht => by
    by_cases hi0 : i = 0
    · subst hi0
      rw [g] at hun; cases hun
    · exact rest_waits hc inv (sink_last1 hs (by omega) inv _ i rfl (by omega) (by omega) hun) t (by omega)) (fun j hj => by have := List.all_eq_true.1 hall j hj; simpa using this) ((l.take (n + 1)).drop 1) 1 _ (a.put o0.dst v0) (fun j hj => by
    have hj' : j < n := Nat.lt_of_lt_of_eq hj htl
    rw [List.getElem?_drop, List.getElem?_take_of_lt (by omega)]; simp) (by rw [htl]; omega) inv1 (by simp [Array.getD]) (by rw [htl]; exact hlex) h
  refine wp_region_any hm ?_
  have := wpAny_of_qhead (Q' := Q) (g := l.length - (n + 1)) (fun listed a' W hW hL => by
    rw [hL.1]; exact hL.2 W hW) _ _ _ { w with drawn := w.drawn + 1 } ⟨rfl, rfl, rfl, Nat.le_refl _, fun _ _ => rfl⟩ H
  rw [htl] at this
  have h2 := wpAny_take (Q := Q) h0 hsel hfree hready hQ hy this
  rw [show n + (l.length - (n + 1)) + 1 = l.toArray.size by rw [hsz]; omega] at h2
  rw [hsz] at h2 ⊢
  exact h2
end Go.Proofs.Ytgohhhfnffhgmaa
