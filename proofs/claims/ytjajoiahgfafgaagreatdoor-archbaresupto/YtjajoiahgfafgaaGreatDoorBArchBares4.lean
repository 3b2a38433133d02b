/- Texts joined: QuietTail, QuietRest, Sums, PlainCut, Plain01, PlainTree, Tree1. -/
import Derived.Test.YtjajoiahgfafgaaGreatDoorBCodeBaseC1
import Derived.StillTail
import Derived.Deep.QuietTactic
import Derived.Test.YtjajoiahgfafgaaGreatDoorBArchBares3
import Derived.Deep.AppendLies
import Derived.Lib.Split
import Derived.Lib.ValidLaws
import Derived.Lib.Join
import Derived.Test.YtjajoiahgfafgaaGreatDoorShelf
set_option linter.unusedSimpArgs false
set_option linter.unusedVariables false

/- A region that draws its order: a head whose operations each yield one value in every world of a class, and a tail that comes behind it in one order alone. -/
section
namespace Go.Proofs.YtjajoiahgfafgaaGreatDoor
open Go.RowKit

section
variable {P : Program} {ops : Array Oper} {md : Region.Mode} {C : World → Prop}
def wpAnyQL (P : Program) (md : Region.Mode) (ops : Array Oper) (C : World → Prop) (n : Nat) (L : Array Bool → Act → Prop) : Nat → Array Bool → Act → Prop
  | 0, listed, a => L listed a
  | f + 1, listed, a => Region.ready md ops listed ≠ [] ∧ ∀ i ∈ Region.ready md ops listed, i < n ∧ qOp P ops C i (wpAnyQL P md ops C n L f (listed.setIfInBounds i true)) a

theorem wpAny_of_qhead {n g : Nat} {L : Array Bool → Act → Prop} {Q' : Exit → Act → World → Prop} (hL : ∀ listed a w, C w → L listed a → wpAny P md ops Q' g listed a w) :
    ∀ (f : Nat) (listed : Array Bool) (a : Act) (w : World), C w → wpAnyQL P md ops C n L f listed a → wpAny P md ops Q' (f + g) listed a w
  | 0, listed, a, w, hw, h => by rw [Nat.zero_add]; exact hL _ _ _ hw h
  | f + 1, listed, a, w, hw, h => by
    rw [show f + 1 + g = (f + g) + 1 by omega]
    exact ⟨fun h0 => absurd h0 h.1, fun i hi => wpOp_of_qOp hw (fun a' w' hw' h' => wpAny_of_qhead hL f _ a' w' hw' h') (h.2 i hi).2⟩

theorem wpAnyQL_first {n i : Nat} {oi : Oper} {v : Value} {L : Array Bool → Act → Prop} (hi : ops[i]? = some oi) (hsel : ∀ (j : Nat) (o : Oper) cs b, ops[j]? = some o → o.op ≠ .select cs b)
    (hs : Region.sinkB md ops n = true) (hc : Region.chainB md ops n = true) (hn : n < ops.size) (hin : i < n)
    (hdone : ∀ listed a, L listed a → ∀ j ∈ Region.ready md ops listed, n ≤ j) :
    ∀ (f : Nat) (listed : Array Bool) (a : Act), HeadInv md ops n listed →
      (∀ j oj, ops[j]? = some oj → j ≠ i → listed.getD j true = false → (∀ e ∈ oj.after, Region.binds md e = true → e.on ≠ i) → oi.apart ops oj = true) →
      i ∈ Region.ready md ops listed → YieldsIn P ops C oi v a →
      wpAnyQL P md ops C n L f (listed.setIfInBounds i true) (a.put oi.dst v) → wpAnyQL P md ops C n L (f + 1) listed a := by
  intro f
  induction f with
  | zero =>
    intro listed a inv _ hr hy H
    have hun := (mem_ready.1 hr).1
    refine ⟨fun h => (by rw [h] at hr; cases hr), fun j hj => ?_⟩
    have hjn : j < n := by
      rcases Nat.lt_or_ge j n with h | h
      · exact h
      · exact absurd hj (tail_waits hs hc hn inv _ i rfl hin hun j h)
    refine ⟨hjn, ?_⟩
    by_cases hji : j = i
    · subst hji; exact hy.qOp hi H
    · have := hdone _ _ H j (ready_mono hj hji)
      omega
  | succ f ih =>
    intro listed a inv hfree hr hy H
    have hun := (mem_ready.1 hr).1
    refine ⟨fun h => (by rw [h] at hr; cases hr), fun j hj => ?_⟩
    have hjn : j < n := by
      rcases Nat.lt_or_ge j n with h | h
      · exact h
      · exact absurd hj (tail_waits hs hc hn inv _ i rfl hin hun j h)
    refine ⟨hjn, ?_⟩
    by_cases hji : j = i
    · subst hji; exact hy.qOp hi H
    · have h1 := (H.2 j (ready_mono hj hji)).2
      obtain ⟨hjun, oj, hoj, hall⟩ := mem_ready.1 hj
      have hnot : ∀ e ∈ oj.after, Region.binds md e = true → e.on ≠ i := fun e he hb heq => by
        have h1 := hall e he hb
        rw [heq, getD_both hun] at h1
        cases h1
      have h2 := qOp_put hoj (hfree j oj hoj hji hjun hnot) (fun cs b => hsel i oi cs b hi) (fun cs b => hsel j oj cs b hoj) hy h1
      have hfree' : ∀ k ok, ops[k]? = some ok → k ≠ i → (listed.setIfInBounds j true).getD k true = false →
          (∀ e ∈ ok.after, Region.binds md e = true → e.on ≠ i) → oi.apart ops ok = true := fun k ok hk hki hun hno => by
        refine hfree k ok hk hki ?_ hno
        by_cases hjk : j = k
        · subst hjk; exact hjun
        · rw [getD_set_ne true hjk] at hun; exact hun
      refine qOp_mono (fun a' h3 => ih (listed.setIfInBounds j true) a' (inv.set hj hjn) hfree' (ready_mono hr (Ne.symm hji)) h3.1 ?_) h2
      rw [Array.setIfInBounds_comm _ _ hji]
      exact h3.2

theorem wpAnyQL_lex {n g : Nat} {Lq : Act → Prop} (hsel : Region.noSelect ops = true) (hs : Region.sinkB md ops n = true) (hc : Region.chainB md ops n = true) (hn : n < ops.size) :
    ∀ (l : List Oper) (k : Nat) (listed : Array Bool) (a : Act), (∀ j, j < l.length → l[j]? = ops[k + j]?) → k + l.length = n → HeadInv md ops n listed →
    Region.lexHead md ops g l.length k listed = true → wpQuiet P ops C Lq l a →
    wpAnyQL P md ops C n (fun listed' a' => Region.seqB md ops g n listed' = true ∧ Lq a') l.length listed a
  | [], k, listed, a, _, hk, _, hB, h => by
    have : k = n := by simpa using hk
    subst this
    exact ⟨by simpa [Region.lexHead] using hB, h⟩
  | o :: l, k, listed, a, hl, hk, inv, hB, h => by
    have h0 : ops[k]? = some o := by simpa using (hl 0 (by simp)).symm
    simp only [List.length_cons, Region.lexHead, Bool.and_eq_true] at hB
    obtain ⟨⟨hr, hf⟩, hB'⟩ := hB
    have hkn : k < n := by simp only [List.length_cons] at hk; omega
    have hr' : k ∈ Region.ready md ops listed := by simpa using hr
    have hst : qOp P ops C k (wpQuiet P ops C Lq l) a := by unfold qOp; simp only [h0]; exact h
    obtain ⟨v, hy, hK⟩ := yieldsIn_of_qOp h0 hst
    exact wpAnyQL_first h0 (Region.noSelect_spec hsel) hs hc hn hkn (fun listed' a' hL => seqB_ready hL.1) l.length listed a inv (Region.free_spec h0 hf) hr' hy
      (wpAnyQL_lex hsel hs hc hn l (k + 1) _ _ (fun j hj => by have := hl (j + 1) (by simp; omega); simpa [Nat.add_assoc, Nat.add_comm 1 j] using this) (by simp only [List.length_cons] at hk; omega) (inv.set hr' hkn) hB' hK)
end

/-- The head: loads, and calls that keep old memory; the tail: whatever it does. -/
theorem wp_region_quiet_tail {P : Program} {id : Nat} {Q : Exit → Act → World → Prop} {a : Act} {w : World} {l : List Oper} (n : Nat) (hm : P.follows .mixedOrders = true) (hB : Region.lexTailB .any l.toArray n = true)
    (h : wpQuiet P l.toArray (fun W => Below w.heap.size w W) (fun a' => ∀ W, Below w.heap.size w W → wpList P l.toArray Q (l.drop n) a' W) (l.take n) a) : (Code.region id l.toArray true).wp P Q a w := by
  simp only [Region.lexTailB, Bool.and_eq_true, decide_eq_true_eq] at hB
  obtain ⟨⟨⟨⟨hsel, hn⟩, hs⟩, hc⟩, hlex⟩ := hB
  have hn' : n < l.length := by simpa using hn
  have htl : (l.take n).length = n := by simp; omega
  have hdl : (l.drop n).length = l.toArray.size - n := by simp
  have inv0 : HeadInv .any l.toArray n (Array.replicate l.toArray.size false) :=
    ⟨by simp, fun j oj _ hl => (by rw [getD_replicate_false] at hl; cases hl), fun t _ ht => getD_in (by simpa using ht) (getD_replicate_false _ _)⟩
  have H := wpAnyQL_lex (md := .any) (g := l.toArray.size - n) hsel hs hc hn (l.take n) 0 _ a (fun j hj => by
    have hj' : j < n := by rw [htl] at hj; exact hj
    simp [hj']) (by simpa using htl) inv0 (by rw [htl]; exact hlex) h
  refine wp_region_any hm ?_
  have := wpAny_of_qhead (Q' := Q) (g := l.toArray.size - n) (fun listed a' W hW hL => by
    have := wpAny_of_seq (md := .any) (Q' := Q) (l.drop n) n listed a' W (fun j => by simp [List.getElem?_drop]) (by rw [hdl]; exact hL.1) (hL.2 W hW)
    rwa [hdl] at this) _ _ _ { w with drawn := w.drawn + 1 } ⟨rfl, rfl, rfl, Nat.le_refl _, fun _ _ => rfl⟩ H
  rw [htl, show n + (l.toArray.size - n) = l.toArray.size by omega] at this
  exact this
end Go.Proofs.YtjajoiahgfafgaaGreatDoor
end

/- A region that draws its order: a head whose operations each yield one value in every world of a class, and behind it a rest in whatever order. -/
section
namespace Go.Proofs.YtjajoiahgfafgaaGreatDoor
open Go.RowKit

/-- Each operation of the rest waits for the head's last one, or for one of the rest ahead of it. -/
def restB (md : Region.Mode) (ops : Array Oper) (n : Nat) : Bool :=
  (List.range ops.size).all fun t => decide (t ≤ n) || (List.range t).any fun j => decide (n ≤ j) && Region.waitsFor md ops t j
def finL (n m : Nat) : Array Bool := (List.replicate n true ++ List.replicate (m - n) false).toArray
def lexTo (md : Region.Mode) (ops : Array Oper) (fin : Array Bool) : Nat → Nat → Array Bool → Bool
  | 0, _, listed => decide (listed = fin)
  | f + 1, k, listed => (Region.ready md ops listed).contains k && Region.free md ops listed k && lexTo md ops fin f (k + 1) (listed.setIfInBounds k true)
/-- n is the head's last operation. -/
def quietRestB (md : Region.Mode) (ops : Array Oper) (n : Nat) : Bool :=
  Region.noSelect ops && decide (n + 1 < ops.size) && Region.sinkB md ops n && restB md ops n && lexTo md ops (finL (n + 1) ops.size) (n + 1) 0 (Array.replicate ops.size false) && (Region.ready md ops (finL (n + 1) ops.size)).all (fun j => decide (n + 1 ≤ j))

section
variable {P : Program} {ops : Array Oper} {md : Region.Mode} {C : World → Prop}
theorem rest_waits {n : Nat} {listed : Array Bool} (hc : restB md ops n = true) (inv : HeadInv md ops (n + 1) listed) (hnl : listed.getD n true = false) :
    ∀ t, n < t → t ∉ Region.ready md ops listed := by
  intro t
  induction t using Nat.strongRecOn with
  | _ t ih =>
    intro ht hr
    obtain ⟨hun, ot, hot, hall⟩ := mem_ready.1 hr
    have htlt : t < ops.size := (Array.getElem?_eq_some_iff.1 hot).1
    have h1 := List.all_eq_true.1 hc t (List.mem_range.2 htlt)
    simp only [Bool.or_eq_true, decide_eq_true_eq] at h1
    rcases h1 with h1 | h1
    · omega
    · obtain ⟨j, hj, hj2⟩ := List.any_eq_true.1 h1
      simp only [Bool.and_eq_true, decide_eq_true_eq] at hj2
      obtain ⟨o', ho', e, he, hb, hon⟩ := Region.waitsFor_spec hj2.2
      have : o' = ot := Option.some.inj (ho'.symm.trans hot)
      subst this
      have h2 := hall e he hb
      have hjt := List.mem_range.1 hj
      rw [hon] at h2
      by_cases hjn : j = n
      · subst hjn
        rw [getD_both hnl] at h2; cases h2
      · rw [getD_both (inv.tail j (by omega) (by omega))] at h2; cases h2
theorem sink_last {n : Nat} {listed : Array Bool} (hs : Region.sinkB md ops n = true) (hn : n < ops.size) (inv : HeadInv md ops (n + 1) listed) : ∀ (d i : Nat), n - i = d → i ≤ n → listed.getD i true = false → listed.getD n true = false := by
  intro d
  induction d using Nat.strongRecOn with
  | _ d ih =>
    intro i hd hi hun
    by_cases hin : i = n
    · subst hin; exact hun
    · have h1 := List.all_eq_true.1 hs i (List.mem_range.2 (by omega))
      obtain ⟨j, hj, hj2⟩ := List.any_eq_true.1 h1
      simp only [Bool.and_eq_true, decide_eq_true_eq] at hj2
      obtain ⟨oj, hoj, e, he, hb, hon⟩ := Region.waitsFor_spec hj2.2
      have hjle := List.mem_range.1 hj
      have hjs : j < listed.size := by rw [inv.size]; omega
      cases hl : listed.getD j false with
      | true =>
        have h2 := inv.closed j oj hoj hl e he hb
        rw [hon, getD_both hun] at h2
        cases h2
      | false => exact ih (n - j) (by omega) j rfl (by omega) (getD_in hjs hl)

theorem wpAnyQR_first {n i : Nat} {oi : Oper} {v : Value} {L : Array Bool → Act → Prop} {G : Array Bool → Prop} (hG : ∀ listed j, G listed → G (listed.setIfInBounds j true)) (hi : ops[i]? = some oi) (hsel : ∀ (j : Nat) (o : Oper) cs b, ops[j]? = some o → o.op ≠ .select cs b)
    (hw : ∀ listed, HeadInv md ops n listed → G listed → ∀ i, i < n → listed.getD i true = false → ∀ t, n ≤ t → t ∉ Region.ready md ops listed) (hin : i < n)
    (hdone : ∀ listed a, L listed a → ∀ j ∈ Region.ready md ops listed, n ≤ j) :
    ∀ (f : Nat) (listed : Array Bool) (a : Act), HeadInv md ops n listed → G listed →
      (∀ j oj, ops[j]? = some oj → j ≠ i → listed.getD j true = false → (∀ e ∈ oj.after, Region.binds md e = true → e.on ≠ i) → oi.apart ops oj = true) →
      i ∈ Region.ready md ops listed → YieldsIn P ops C oi v a →
      wpAnyQL P md ops C n L f (listed.setIfInBounds i true) (a.put oi.dst v) → wpAnyQL P md ops C n L (f + 1) listed a := by
  intro f
  induction f with
  | zero =>
    intro listed a inv g _ hr hy H
    have hun := (mem_ready.1 hr).1
    refine ⟨fun h => (by rw [h] at hr; cases hr), fun j hj => ?_⟩
    have hjn : j < n := by
      rcases Nat.lt_or_ge j n with h | h
      · exact h
      · exact absurd hj (hw listed inv g i hin hun j h)
    refine ⟨hjn, ?_⟩
    by_cases hji : j = i
    · subst hji; exact hy.qOp hi H
    · have := hdone _ _ H j (ready_mono hj hji)
      omega
  | succ f ih =>
    intro listed a inv g hfree hr hy H
    have hun := (mem_ready.1 hr).1
    refine ⟨fun h => (by rw [h] at hr; cases hr), fun j hj => ?_⟩
    have hjn : j < n := by
      rcases Nat.lt_or_ge j n with h | h
      · exact h
      · exact absurd hj (hw listed inv g i hin hun j h)
    refine ⟨hjn, ?_⟩
    by_cases hji : j = i
    · subst hji; exact hy.qOp hi H
    · have h1 := (H.2 j (ready_mono hj hji)).2
      obtain ⟨hjun, oj, hoj, hall⟩ := mem_ready.1 hj
      have hnot : ∀ e ∈ oj.after, Region.binds md e = true → e.on ≠ i := fun e he hb heq => by
        have h1 := hall e he hb
        rw [heq, getD_both hun] at h1
        cases h1
      have h2 := qOp_put hoj (hfree j oj hoj hji hjun hnot) (fun cs b => hsel i oi cs b hi) (fun cs b => hsel j oj cs b hoj) hy h1
      have hfree' : ∀ k ok, ops[k]? = some ok → k ≠ i → (listed.setIfInBounds j true).getD k true = false →
          (∀ e ∈ ok.after, Region.binds md e = true → e.on ≠ i) → oi.apart ops ok = true := fun k ok hk hki hun hno => by
        refine hfree k ok hk hki ?_ hno
        by_cases hjk : j = k
        · subst hjk; exact hjun
        · rw [getD_set_ne true hjk] at hun; exact hun
      refine qOp_mono (fun a' h3 => ih (listed.setIfInBounds j true) a' (inv.set hj hjn) (hG _ _ g) hfree' (ready_mono hr (Ne.symm hji)) h3.1 ?_) h2
      rw [Array.setIfInBounds_comm _ _ hji]
      exact h3.2

theorem wpAnyQR_lex {n : Nat} {fin : Array Bool} {Lq : Act → Prop} {G : Array Bool → Prop} (hG : ∀ listed j, G listed → G (listed.setIfInBounds j true)) (hsel : Region.noSelect ops = true) (hw : ∀ listed, HeadInv md ops n listed → G listed → ∀ i, i < n → listed.getD i true = false → ∀ t, n ≤ t → t ∉ Region.ready md ops listed)
    (hf : ∀ j ∈ Region.ready md ops fin, n ≤ j) :
    ∀ (l : List Oper) (k : Nat) (listed : Array Bool) (a : Act), (∀ j, j < l.length → l[j]? = ops[k + j]?) → k + l.length = n → HeadInv md ops n listed → G listed →
    lexTo md ops fin l.length k listed = true → wpQuiet P ops C Lq l a →
    wpAnyQL P md ops C n (fun listed' a' => listed' = fin ∧ Lq a') l.length listed a
  | [], k, listed, a, _, hk, _, _, hB, h => ⟨by simpa [lexTo] using hB, h⟩
  | o :: l, k, listed, a, hl, hk, inv, g, hB, h => by
    have h0 : ops[k]? = some o := by simpa using (hl 0 (by simp)).symm
    simp only [List.length_cons, lexTo, Bool.and_eq_true] at hB
    obtain ⟨⟨hr, hfr⟩, hB'⟩ := hB
    have hkn : k < n := by simp only [List.length_cons] at hk; omega
    have hr' : k ∈ Region.ready md ops listed := by simpa using hr
    have hst : qOp P ops C k (wpQuiet P ops C Lq l) a := by unfold qOp; simp only [h0]; exact h
    obtain ⟨v, hy, hK⟩ := yieldsIn_of_qOp h0 hst
    exact wpAnyQR_first hG h0 (Region.noSelect_spec hsel) hw hkn (fun listed' a' hL => by rw [hL.1]; exact hf) l.length listed a inv g (Region.free_spec h0 hfr) hr' hy
      (wpAnyQR_lex hG hsel hw hf l (k + 1) _ _ (fun j hj => by have := hl (j + 1) (by simp; omega); simpa [Nat.add_assoc, Nat.add_comm 1 j] using this) (by simp only [List.length_cons] at hk; omega) (inv.set hr' hkn) (hG _ _ g) hB' hK)
end

/-- The head: loads, and calls that keep old memory (its last operation: n); the rest: in whatever order. -/
theorem wp_region_quiet_rest {P : Program} {id : Nat} {Q : Exit → Act → World → Prop} {a : Act} {w : World} {l : List Oper} (n : Nat) (hm : P.follows .mixedOrders = true) (hB : quietRestB .any l.toArray n = true)
    (h : wpQuiet P l.toArray (fun W => Below w.heap.size w W) (fun a' => ∀ W, Below w.heap.size w W → wpAny P .any l.toArray Q (l.length - (n + 1)) (finL (n + 1) l.length) a' W) (l.take (n + 1)) a) : (Code.region id l.toArray true).wp P Q a w := by
  simp only [quietRestB, Bool.and_eq_true, decide_eq_true_eq] at hB
  obtain ⟨⟨⟨⟨⟨hsel, hn⟩, hs⟩, hc⟩, hlex⟩, hall⟩ := hB
  have hn' : n + 1 < l.length := by simpa using hn
  have htl : (l.take (n + 1)).length = n + 1 := by simp; omega
  have inv0 : HeadInv .any l.toArray (n + 1) (Array.replicate l.toArray.size false) :=
    ⟨by simp, fun j oj _ hl => (by rw [getD_replicate_false] at hl; cases hl), fun t _ ht => getD_in (by simpa using ht) (getD_replicate_false _ _)⟩
  have hsz : l.toArray.size = l.length := by simp
  rw [hsz] at hlex hall
  have H := wpAnyQR_lex (md := .any) (G := fun _ => True) (fun _ _ _ => trivial) hsel (fun listed inv _ i hi hun t ht => rest_waits hc inv (sink_last hs (by omega) inv _ i rfl (by omega) hun) t (by omega)) (fun j hj => by have := List.all_eq_true.1 hall j hj; simpa using this) (l.take (n + 1)) 0 _ a (fun j hj => by
    have hj' : j < n + 1 := by rw [htl] at hj; exact hj
    simp [hj']) (by simpa using htl) inv0 trivial (by rw [htl, hsz]; exact hlex) h
  refine wp_region_any hm ?_
  have := wpAny_of_qhead (Q' := Q) (g := l.length - (n + 1)) (fun listed a' W hW hL => by
    rw [hL.1]; exact hL.2 W hW) _ _ _ { w with drawn := w.drawn + 1 } ⟨rfl, rfl, rfl, Nat.le_refl _, fun _ _ => rfl⟩ H
  rw [htl, show n + 1 + (l.length - (n + 1)) = l.toArray.size by rw [hsz]; omega] at this
  exact this

/-- The same, where the first operation (one that asks no world) is taken ahead, and only the rest waits for it. -/
def quietRest1B (md : Region.Mode) (ops : Array Oper) (n : Nat) : Bool :=
  Region.noSelect ops && decide (n + 1 < ops.size) && ((List.range n).all fun i => decide (i = 0) || (List.range (n + 1)).any fun j => decide (i < j) && Region.waitsFor md ops j i) && restB md ops n &&
    lexTo md ops (finL (n + 1) ops.size) n 1 ((Array.replicate ops.size false).setIfInBounds 0 true) && (Region.ready md ops (finL (n + 1) ops.size)).all (fun j => decide (n + 1 ≤ j)) &&
    Region.free md ops (Array.replicate ops.size false) 0 && (Region.ready md ops (Array.replicate ops.size false)).contains 0
theorem sink_last1 {md : Region.Mode} {ops : Array Oper} {n : Nat} {listed : Array Bool} (hs : ((List.range n).all fun i => decide (i = 0) || (List.range (n + 1)).any fun j => decide (i < j) && Region.waitsFor md ops j i) = true) (hn : n < ops.size) (inv : HeadInv md ops (n + 1) listed) :
    ∀ (d i : Nat), n - i = d → 1 ≤ i → i ≤ n → listed.getD i true = false → listed.getD n true = false := by
  intro d
  induction d using Nat.strongRecOn with
  | _ d ih =>
    intro i hd h1i hi hun
    by_cases hin : i = n
    · subst hin; exact hun
    · have h1 := List.all_eq_true.1 hs i (List.mem_range.2 (by omega))
      simp only [Bool.or_eq_true, decide_eq_true_eq] at h1
      rcases h1 with h1 | h1
      · omega
      obtain ⟨j, hj, hj2⟩ := List.any_eq_true.1 h1
      simp only [Bool.and_eq_true, decide_eq_true_eq] at hj2
      obtain ⟨oj, hoj, e, he, hb, hon⟩ := Region.waitsFor_spec hj2.2
      have hjle := List.mem_range.1 hj
      have hjs : j < listed.size := by rw [inv.size]; omega
      cases hl : listed.getD j false with
      | true =>
        have h2 := inv.closed j oj hoj hl e he hb
        rw [hon, getD_both hun] at h2
        cases h2
      | false => exact ih (n - j) (by omega) j rfl (by omega) (by omega) (getD_in hjs hl)
theorem wp_region_move_quiet_rest {P : Program} {id : Nat} {Q : Exit → Act → World → Prop} {a : Act} {w : World} {l : List Oper} {o0 : Oper} {v0 : Value} (d : Nat) (n : Nat) (hm : P.follows .mixedOrders = true) (hB : quietRest1B .any l.toArray n = true)
    (h0 : l.toArray[0]? = some o0) (hd : o0.dst = some d) (hQ : ∀ c a w, Q (.panic c) (a.put o0.dst v0) w → Q (.panic c) a w) (hy : Yields P l.toArray o0 v0 a)
    (h : wpQuiet P l.toArray (fun W => Below w.heap.size w W) (fun a' => ∀ W, Below w.heap.size w W → wpAny P .any l.toArray Q (l.length - (n + 1)) (finL (n + 1) l.length) a' W) ((l.take (n + 1)).drop 1) (a.put (some d) v0)) : (Code.region id l.toArray true).wp P Q a w := by
  rw [← hd] at h
  simp only [quietRest1B, Bool.and_eq_true, decide_eq_true_eq] at hB
  obtain ⟨⟨⟨⟨⟨⟨⟨hsel, hn⟩, hs⟩, hc⟩, hlex⟩, hall⟩, hfree⟩, hready⟩ := hB
  have hn' : n + 1 < l.length := by simpa using hn
  have htl : ((l.take (n + 1)).drop 1).length = n := by simp; omega
  have inv0 : HeadInv .any l.toArray (n + 1) (Array.replicate l.toArray.size false) :=
    ⟨by simp, fun j oj _ hl => (by rw [getD_replicate_false] at hl; cases hl), fun t _ ht => getD_in (by simpa using ht) (getD_replicate_false _ _)⟩
  have hr0 : 0 ∈ Region.ready .any l.toArray (Array.replicate l.toArray.size false) := by simpa using hready
  have inv1 := inv0.set hr0 (by omega)
  have hsz : l.toArray.size = l.length := by simp
  rw [hsz] at hlex hall inv1
  rw [hsz] at hfree hready
  have H := wpAnyQR_lex (md := .any) (G := fun listed => listed.getD 0 true = true) (fun listed j g => by
      by_cases hj : j = 0
      · subst hj
        by_cases hs : 0 < listed.size
        · simp [Array.getD, hs]
        · simp [Array.getD, hs]
      · rw [getD_set_ne true hj]; exact g) hsel (n := n + 1) (fun listed inv g i hi hun t ht => by
    by_cases hi0 : i = 0
    · subst hi0
      rw [g] at hun; cases hun
    · exact rest_waits hc inv (sink_last1 hs (by omega) inv _ i rfl (by omega) (by omega) hun) t (by omega)) (fun j hj => by have := List.all_eq_true.1 hall j hj; simpa using this) ((l.take (n + 1)).drop 1) 1 _ (a.put o0.dst v0) (fun j hj => by
    have hj' : j < n := Nat.lt_of_lt_of_eq hj htl
    rw [List.getElem?_drop, List.getElem?_take_of_lt (by omega)]; simp) (by rw [htl]; omega) inv1 (by simp [Array.getD]) (by rw [htl]; exact hlex) h
  refine wp_region_any hm ?_
  have := wpAny_of_qhead (Q' := Q) (g := l.length - (n + 1)) (fun listed a' W hW hL => by
    rw [hL.1]; exact hL.2 W hW) _ _ _ { w with drawn := w.drawn + 1 } ⟨rfl, rfl, rfl, Nat.le_refl _, fun _ _ => rfl⟩ H
  rw [htl] at this
  have h2 := wpAny_take (Q := Q) h0 hsel hfree hready hQ hy this
  rw [show n + (l.length - (n + 1)) + 1 = l.toArray.size by rw [hsz]; omega] at h2
  rw [hsz] at h2 ⊢
  exact h2
end Go.Proofs.YtjajoiahgfafgaaGreatDoor
end

/- The document's Sums. (As in XDelta3, for the seats that lack the document's blocks.) -/
section
namespace Go.Proofs.YtjajoiahgfafgaaGreatDoor
open Go.RowKit Plain

theorem info_str : (Tryz.prog.info? 9).map (fun i => (i.zero, i.size, i.bytes)) = some (some (.string ⟨#[]⟩), 1, 16) := by kernel_rfl

set_option maxRecDepth 100000 in
set_option maxHeartbeats 2000000 in
theorem Sums_any (A : Option Addr) (c : Nat) (l : List (List UInt8)) (w : World) (hl : Reads w 1 A l.length (strs l)) (hn : l.length ≤ 1048576) (hs : ∀ s ∈ l, s.length ≤ 1048576) :
    Calls Tryz.prog 84 #[.slice A l.length c] w fun e w' => ∃ v, e = .returned v ∧ w'.ownsRow w.heap.size 9 1 v l.length (strs (l.map sha)) ∧ Below w.heap.size w w' := by
  obtain ⟨i0, hi, hz0, hz1, hz2⟩ := info_parts info_str
  have HI := Lib.hid hi
  clear hi
  go_enter Tryz.func84, Tryz.ntmps84
  go_wp2_with (fail)
  refine (Table_any _).mono ?_
  rintro e w1 ⟨v, u, rfl, hv, hu, hb1⟩
  obtain ⟨Av, cv, rfl, _, _, hrv⟩ := IsSlice.of_own hv
  obtain ⟨Au, cu, rfl, _, _, hru⟩ := IsSlice.of_own hu
  have HV := Lib.hid hrv
  have HU := Lib.hid hru
  have HL := Lib.hid hl
  have HB1 := Lib.hid hb1
  clear hv hu hrv hru hl hb1
  go_wp2_with (fail)
  go_loopw [5, 6] (fun t5 t6 W => ∃ k : Nat, k ≤ l.length ∧ t6 = .int .i64 (k : Nat) ∧ Hid (W.ownsRow w1.heap.size 9 1 t5 k (strs ((l.map sha).take k))) ∧ Hid (Below w1.heap.size w1 W)) (fun _ t6 _ => l.length - (intOf t6).toNat)
  case atStart => exact ⟨0, by omega, rfl, Lib.hid (World.ownsRow_nil _ _ _ _), Lib.hid (Below.refl _ _)⟩
  case round =>
    obtain ⟨k, hk, rfl, HO, HB⟩ := hrel
    have i1 : (0 : Int) ≤ (k : Int) := by omega
    by_cases hlt : k < l.length
    · have hlW := HL.out.below (HB1.out.trans (HB.out.mono HB1.out.size))
      obtain ⟨ad, rfl, hcell⟩ := hlW.str_at hlt
      have htk : (l.map sha).take (k + 1) = (l.map sha).take k ++ [sha l[k]] := by
        rw [List.take_succ_eq_append_getElem (by simpa using hlt)]; simp
      have hsl := hs _ (List.getElem_mem hlt)
      have hsum := fun W (h : Below w1.heap.size w1 W) => refsum_any Av Au cv cu l[k] W (by omega) (HV.out.below h) (HU.out.below h)
      generalize l[k] = s at *
      have i2 : (k : Int) < (l.length : Int) := by omega
      have HT := Lib.hid htk
      have HSUM := Lib.hid hsum
      clear htk hsum hlW
      go_wp2_with (fail)
      refine (HSUM.out _ HB.out).mono ?_
      rintro e w2 ⟨rfl, hb2⟩
      have HB2 := Lib.hid (HB.out.trans (hb2.mono HB.out.size))
      have HO2 := Lib.hid (own_below HO.out hb2)
      clear hb2 HB HO hcell
      go_wp2_with (at_builtin; refine wpList_append_two rfl _ _ 93 rfl w1.heap.size 9 i0 _ 1 16 Tryz.underlying93 HI.out hz0 hz1 hz2 rfl (by decide) _ _ _ rfl (HO2.out.alloc _) ⟨w2.heap.size, 0, none⟩ 1 1 [.string ⟨(sha s).toArray⟩] rfl rfl (laid_one _ _ _) (one_oneCell rfl) ?c3 ?c4 ?c5 ?_)
      case c3 => unfold maxLen; omega
      case c4 => omega
      case c5 => have := HB2.out.size; simp; omega
      intro v1 w5 hown5 hg5 hl5
      have hb5 : Below w1.heap.size w1 w5 := (HB2.out.alloc HB2.out.size _).grown hg5 (by have := HB2.out.size; simp; omega) (fun k hk => (HO2.out.lt k hk).1)
      have hown6 : w5.ownsRow w1.heap.size 9 1 v1 (k + 1) (strs ((l.map sha).take (k + 1))) := by
        rw [HT.out, strs_append]; exact hown5
      have HO5 := Lib.hid hown6
      have HB5 := Lib.hid hb5
      clear hown5 hown6 hg5 hl5 hb5 HO2 HB2
      go_wp2_with (fail)
      go_roundw
      case rel => exact ⟨k + 1, by omega, by go_num, HO5, HB5⟩
      case measure => simp [intOf]; omega
    · obtain rfl : k = l.length := by omega
      have HOX := HO.out
      rw [List.take_of_length_le (by simp)] at HOX
      have HF := Lib.hid (own_base HOX HB1.out.size)
      have HFB := Lib.hid (HB1.out.trans (HB.out.mono HB1.out.size))
      clear HOX HO
      go_wp2_with (fail)
      go_ret
      exact ⟨_, rfl, HF.out, HFB.out⟩

end Go.Proofs.YtjajoiahgfafgaaGreatDoor
end

/- Plain laws of texts cut at a byte. -/
section
namespace Go.Proofs.YtjajoiahgfafgaaGreatDoor.Plain

def cons1 (x : UInt8) : List (List UInt8) → List (List UInt8)
  | [] => [[x]]
  | p :: r => (x :: p) :: r
/-- a text cut behind each c; of c there stays k -/
def cutAt (c : UInt8) (k : List UInt8) : List UInt8 → List (List UInt8)
  | [] => [[]]
  | x :: s => if x = c then k :: cutAt c k s else cons1 x (cutAt c k s)
theorem cutAt_cons (c : UInt8) (k : List UInt8) (x : UInt8) (s : List UInt8) : cutAt c k (x :: s) = if x = c then k :: cutAt c k s else cons1 x (cutAt c k s) := rfl
theorem cutAt_ne (c : UInt8) (k : List UInt8) (s : List UInt8) : cutAt c k s ≠ [] := by
  cases s with
  | nil => simp [cutAt]
  | cons x s =>
    unfold cutAt
    split
    · simp
    · cases cutAt c k s <;> simp [cons1]
theorem cutAt_none (c : UInt8) (k : List UInt8) (s : List UInt8) (h : c ∉ s) : cutAt c k s = [s] := by
  induction s with
  | nil => rfl
  | cons x s ih =>
    simp only [List.mem_cons, not_or] at h
    unfold cutAt
    rw [if_neg (fun e => h.1 e.symm), ih h.2]; rfl
theorem cutAt_first (c : UInt8) (k : List UInt8) (p r : List UInt8) (h : c ∉ p) : cutAt c k (p ++ c :: r) = (p ++ k) :: cutAt c k r := by
  induction p with
  | nil => simp [cutAt]
  | cons x p ih =>
    simp only [List.mem_cons, not_or] at h
    rw [List.cons_append, cutAt_cons, if_neg (fun e => h.1 e.symm), ih h.2]; rfl
theorem cutAt_length (c : UInt8) (k : List UInt8) (s : List UInt8) : (cutAt c k s).length = s.count c + 1 := by
  induction s with
  | nil => rfl
  | cons x s ih =>
    unfold cutAt
    by_cases e : x = c
    · rw [if_pos e]; subst e; simp [ih]
    · rw [if_neg e]
      have := cutAt_ne c k s
      cases hc : cutAt c k s with
      | nil => exact absurd hc this
      | cons p r => rw [hc] at ih; simp only [cons1, List.length_cons] at ih ⊢; rw [List.count_cons, if_neg (by simpa using e)]; omega
/-- one byte more -/
theorem cutAt_snoc (c : UInt8) (k : List UInt8) (x : UInt8) : ∀ (s : List UInt8) (d : List (List UInt8)) (q : List UInt8), cutAt c k s = d ++ [q] →
    cutAt c k (s ++ [x]) = if x = c then d ++ [q ++ k, []] else d ++ [q ++ [x]]
  | [], d, q, h => by
    have hd : d = [] ∧ q = [] := by
      cases d with
      | nil => simp [cutAt] at h; exact ⟨rfl, h⟩
      | cons a d => simp [cutAt] at h
    obtain ⟨rfl, rfl⟩ := hd
    by_cases e : x = c <;> simp [cutAt, e, cons1]
  | y :: s, d, q, h => by
    rw [List.cons_append]
    rw [cutAt_cons] at h ⊢
    by_cases e : y = c
    · rw [if_pos e] at h ⊢
      cases d with
      | nil => simp at h; exact absurd h.2 (cutAt_ne _ _ _)
      | cons a d =>
        simp only [List.cons_append, List.cons.injEq] at h
        rw [cutAt_snoc c k x s d q h.2, h.1]
        split <;> rfl
    · rw [if_neg e] at h ⊢
      cases hc : cutAt c k s with
      | nil => exact absurd hc (cutAt_ne _ _ _)
      | cons p r =>
        rw [hc] at h
        simp only [cons1] at h
        cases d with
        | nil =>
          simp only [List.nil_append, List.cons.injEq] at h
          obtain ⟨rfl, rfl⟩ := h
          rw [cutAt_snoc c k x s [] p (by rw [hc]; rfl)]
          split <;> simp [cons1]
        | cons a d =>
          simp only [List.cons_append, List.cons.injEq] at h
          obtain ⟨rfl, rfl⟩ := h
          rw [cutAt_snoc c k x s (p :: d) q (by rw [hc]; rfl)]
          split <;> simp [cons1]
theorem cutAt_last (c : UInt8) (k : List UInt8) (s : List UInt8) : ∃ d q, cutAt c k s = d ++ [q] :=
  ⟨(cutAt c k s).dropLast, (cutAt c k s).getLast (cutAt_ne c k s), (List.dropLast_concat_getLast (cutAt_ne c k s)).symm⟩

theorem index_none {c : UInt8} {l : List UInt8} (h : c ∉ l) : Lib.index l [c] = -1 := by
  induction l with
  | nil => rfl
  | cons b l ih =>
    simp only [List.mem_cons, not_or] at h
    unfold Lib.index
    rw [if_neg (by simp [List.isPrefixOf, h.1]), ih h.2]; rfl
theorem index_first {c : UInt8} (p r : List UInt8) (h : c ∉ p) : Lib.index (p ++ c :: r) [c] = p.length := by
  induction p with
  | nil => simp [Lib.index, List.isPrefixOf]
  | cons b p ih =>
    simp only [List.mem_cons, not_or] at h
    rw [List.cons_append]
    unfold Lib.index
    rw [if_neg (by simp [List.isPrefixOf, h.1]), ih h.2, if_neg (by simp)]
    simp
theorem first_c {c : UInt8} : ∀ (l : List UInt8), c ∈ l → ∃ p r, l = p ++ c :: r ∧ c ∉ p
  | x :: l, h => by
    by_cases e : c = x
    · subst e; exact ⟨[], l, rfl, by simp⟩
    · obtain ⟨p, r, h1, h2⟩ := first_c l (by simpa [e] using h)
      exact ⟨x :: p, r, by rw [h1]; rfl, by simp [e, h2]⟩

theorem ext_list (l : List UInt8) (a b : Nat) : (ByteArray.mk l.toArray).extract a b = ⟨((l.drop a).take (b - a)).toArray⟩ := by
  apply ByteArray.ext; simp [List.extract]

/-- what the library's cutting gives -/
theorem splitB_cut (c : UInt8) (sv : Nat) (hsv : sv ≤ 1) : ∀ (n : Nat) (s : List UInt8), s.count c ≤ n →
    (Lib.splitB ⟨#[c]⟩ sv n ⟨s.toArray⟩).map (·.data.toList) = cutAt c (if sv = 1 then [c] else []) s := by
  intro n
  induction n with
  | zero =>
    intro s h
    rw [cutAt_none _ _ _ (List.count_eq_zero.1 (by omega))]
    simp [Lib.splitB]
  | succ n ih =>
    intro s h
    unfold Lib.splitB
    have hi : Lib.indexB ⟨s.toArray⟩ ⟨#[c]⟩ = Lib.index s [c] := rfl
    rw [hi]
    by_cases hc : c ∈ s
    · obtain ⟨p, r, rfl, hp⟩ := first_c s hc
      rw [index_first p r hp, if_neg (by simp), cutAt_first _ _ _ _ hp]
      have hcnt : r.count c ≤ n := by
        rw [List.count_append, List.count_cons_self] at h; omega
      have hex : ByteArray.extract ⟨(p ++ c :: r).toArray⟩ (((p.length : Int)).toNat + ByteArray.size ⟨#[c]⟩) (ByteArray.size ⟨(p ++ c :: r).toArray⟩) = ⟨r.toArray⟩ := by
        rw [ext_list, show ((p.length : Int)).toNat = p.length by omega, show ByteArray.size ⟨#[c]⟩ = 1 from rfl, show ByteArray.size ⟨(p ++ c :: r).toArray⟩ = (p ++ c :: r).length by simp [ByteArray.size]]
        rw [show (p ++ c :: r).drop (p.length + 1) = r by rw [← List.drop_drop, List.drop_left' rfl]; rfl, List.take_of_length_le (by simp; omega)]
      have hex0 : (ByteArray.extract ⟨(p ++ c :: r).toArray⟩ 0 (((p.length : Int)).toNat + sv)).data.toList = p ++ (if sv = 1 then [c] else []) := by
        rw [ext_list, show ((p.length : Int)).toNat = p.length by omega]
        simp only [List.drop_zero, Nat.sub_zero]
        match sv, hsv with
        | 0, _ => simp
        | 1, _ => simp [List.take_append, List.take_of_length_le]
      rw [List.map_cons, hex, ih r hcnt, hex0]
    · rw [index_none hc, if_pos (by decide), cutAt_none _ _ _ hc]
      simp
/-- without an empty last one -/
def trimLast : List (List UInt8) → List (List UInt8)
  | [] => []
  | [q] => if q = [] then [] else [q]
  | x :: y :: r => x :: trimLast (y :: r)
theorem trimLast_snoc (d : List (List UInt8)) (q : List UInt8) : trimLast (d ++ [q]) = d ++ if q = [] then [] else [q] := by
  induction d with
  | nil => rfl
  | cons x d ih =>
    cases d with
    | nil => rfl
    | cons y d => rw [List.cons_append, List.cons_append, trimLast]; rw [List.cons_append] at ih; rw [ih]; rfl
/-- a text's lines, with their ends -/
def linesL (s : List UInt8) : List (List UInt8) := trimLast (cutAt 10 [10] s)
theorem linesL_length (s : List UInt8) : (linesL s).length ≤ s.length + 1 := by
  obtain ⟨d, q, h⟩ := cutAt_last 10 [10] s
  have h2 := cutAt_length 10 [10] s
  have h3 : s.count 10 ≤ s.length := List.count_le_length
  unfold linesL
  rw [h, List.length_append] at h2
  rw [h, trimLast_snoc, List.length_append]
  split <;> simp at h2 ⊢ <;> omega
end Go.Proofs.YtjajoiahgfafgaaGreatDoor.Plain
end

/- Plain laws of names and paths. -/
section
namespace Go.Proofs.YtjajoiahgfafgaaGreatDoor.Plain

/-! ### Cutting at '/' and joining -/
def parts (s : List UInt8) : List (List UInt8) := cutAt 47 [] s
def joinS : List (List UInt8) → List UInt8
  | [] => []
  | [x] => x
  | x :: y :: r => x ++ 47 :: joinS (y :: r)
theorem joinS_cons (x : List UInt8) (r : List (List UInt8)) (h : r ≠ []) : joinS (x :: r) = x ++ 47 :: joinS r := by
  cases r with
  | nil => exact absurd rfl h
  | cons y r => rfl
theorem parts_ne (s : List UInt8) : parts s ≠ [] := cutAt_ne _ _ _
theorem parts_length (s : List UInt8) : (parts s).length = s.count 47 + 1 := cutAt_length _ _ _
theorem join_cons1 (x : UInt8) (l : List (List UInt8)) (h : l ≠ []) : joinS (cons1 x l) = x :: joinS l := by
  cases l with
  | nil => exact absurd rfl h
  | cons p r => cases r <;> rfl
theorem join_parts (s : List UInt8) : joinS (parts s) = s := by
  unfold parts
  induction s with
  | nil => rfl
  | cons x s ih =>
    rw [cutAt_cons]
    split
    · rename_i e; subst e; rw [joinS_cons _ _ (cutAt_ne _ _ _), ih]; rfl
    · rw [join_cons1 _ _ (cutAt_ne _ _ _), ih]
theorem parts_none (s : List UInt8) (h : 47 ∉ s) : parts s = [s] := cutAt_none _ _ _ h
theorem parts_first (p r : List UInt8) (h : 47 ∉ p) : parts (p ++ 47 :: r) = p :: parts r := by
  unfold parts; rw [cutAt_first _ _ _ _ h, List.append_nil]
theorem parts_join : ∀ (l : List (List UInt8)), l ≠ [] → (∀ x ∈ l, 47 ∉ x) → parts (joinS l) = l
  | [], h, _ => absurd rfl h
  | [x], _, h => parts_none x (h x (by simp))
  | x :: y :: r, _, h => by
    rw [joinS_cons _ _ (by simp), parts_first _ _ (h x (by simp)), parts_join (y :: r) (by simp) (fun z hz => h z (by simp [hz]))]
theorem mem_cons1 {x : UInt8} {l : List (List UInt8)} {z : List UInt8} (h : z ∈ cons1 x l) (hl : ∀ y ∈ l, 47 ∉ y) (hx : x ≠ 47) : 47 ∉ z := by
  cases l with
  | nil => simp [cons1] at h; subst h; simpa using fun e => hx e.symm
  | cons p r =>
    simp only [cons1, List.mem_cons] at h
    rcases h with rfl | h
    · have := hl p (by simp); simpa [this] using fun e => hx e.symm
    · exact hl z (by simp [h])
theorem parts_no (s : List UInt8) : ∀ x ∈ parts s, 47 ∉ x := by
  unfold parts
  induction s with
  | nil => intro x hx; simp [cutAt] at hx; subst hx; simp
  | cons a s ih =>
    intro x hx
    rw [cutAt_cons] at hx
    split at hx
    · simp at hx; rcases hx with rfl | hx; simp; exact ih x hx
    · exact mem_cons1 hx ih (by assumption)
/-- the last '/' -/
theorem last_cut {s : List UInt8} (h : 47 ∈ s) : ∃ p q, s = p ++ 47 :: q ∧ 47 ∉ q := by
  have := first_c (c := 47) s.reverse (by simpa using h)
  obtain ⟨a, b, hs, ha⟩ := this
  refine ⟨b.reverse, a.reverse, ?_, by simpa using ha⟩
  have := congrArg List.reverse hs
  simpa using this
theorem join_append : ∀ (l m : List (List UInt8)), l ≠ [] → m ≠ [] → joinS (l ++ m) = joinS l ++ 47 :: joinS m
  | [], _, h, _ => absurd rfl h
  | [x], m, _, hm => joinS_cons x m hm
  | x :: y :: r, m, _, hm => by
    have h := join_append (y :: r) m (by simp) hm
    show x ++ 47 :: joinS (y :: r ++ m) = (x ++ 47 :: joinS (y :: r)) ++ 47 :: joinS m
    rw [h]; simp
theorem parts_last (p q : List UInt8) (h : 47 ∉ q) : parts (p ++ 47 :: q) = parts p ++ [q] := by
  have : joinS (parts p ++ [q]) = p ++ 47 :: q := by
    rw [join_append _ _ (parts_ne p) (by simp), join_parts]; rfl
  rw [← this, parts_join]
  · simp
  · intro x hx; simp at hx; rcases hx with hx | rfl; exact parts_no p x hx; exact h
theorem join_length : ∀ (l : List (List UInt8)), (joinS l).length = (l.map List.length).sum + (l.length - 1)
  | [] => rfl
  | [x] => by simp [joinS]
  | x :: y :: r => by rw [joinS_cons _ _ (by simp)]; have := join_length (y :: r); simp at this ⊢; omega
theorem join_count : ∀ (l : List (List UInt8)), (joinS l).count 47 = (l.map (List.count 47)).sum + (l.length - 1)
  | [] => rfl
  | [x] => by simp [joinS]
  | x :: y :: r => by rw [joinS_cons _ _ (by simp)]; have := join_count (y :: r); simp at this ⊢; omega
theorem join_lib (l : List (List UInt8)) : Lib.join l [47] = joinS l := by
  unfold Lib.join
  induction l with
  | nil => rfl
  | cons x r ih =>
    cases r with
    | nil => simp [joinS, List.intercalate]
    | cons y r => rw [joinS_cons _ _ (by simp), ← ih]; simp [List.intercalate, List.intersperse]

/-! ### Names and paths -/
def nameOK (s : List UInt8) : Bool := !s.isEmpty && decide (s.length ≤ 64) && !(s == [46]) && !(s == [46, 46]) && Lib.validD s && !s.contains 47 && !s.contains 0
def pathOK (s : List UInt8) : Bool := decide (s.length ≤ 400) && decide ((parts s).length ≤ 16) && (parts s).all nameOK
theorem pathOK_len {s : List UInt8} (h : pathOK s = true) : s.length ≤ 400 := by
  unfold pathOK at h; simp at h; exact h.1.1
theorem pathOK_ne {s : List UInt8} (h : pathOK s = true) : s ≠ [] := by
  rintro rfl
  revert h; decide
theorem pathOK_mem {s n : List UInt8} (h : pathOK s = true) (hn : n ∈ parts s) : nameOK n = true := by
  unfold pathOK at h; simp at h; exact h.2 n hn
theorem pathOK_join {l : List (List UInt8)} (hl : l ≠ []) (h16 : l.length ≤ 16) (h : ∀ x ∈ l, nameOK x = true) (h400 : (joinS l).length ≤ 400) : pathOK (joinS l) = true := by
  have hno : ∀ x ∈ l, 47 ∉ x := fun x hx => by have := h x hx; unfold nameOK at this; simp at this; exact this.1.2
  unfold pathOK
  rw [parts_join l hl hno]
  simp; exact ⟨⟨h400, h16⟩, h⟩
theorem nameOK_path {s : List UInt8} (h : nameOK s = true) : pathOK s = true := by
  unfold nameOK at h; simp at h
  obtain ⟨⟨⟨⟨⟨⟨h1, h2⟩, h3⟩, h4⟩, h5⟩, h6⟩, h7⟩ := h
  unfold pathOK
  rw [parts_none s h6]
  simp [nameOK, h1, h2, h3, h4, h5, h6, h7]; omega

/-! ### What is above and what is last -/
def parentM (s : List UInt8) : List UInt8 := if pathOK s then joinS (parts s).dropLast else []
def baseM (s : List UInt8) : List UInt8 := if pathOK s then (parts s).getLast (parts_ne s) else []
theorem parent_none {s : List UInt8} (h : 47 ∉ s) : parentM s = [] := by
  unfold parentM; split; rw [parts_none s h]; rfl; rfl
theorem parent_cut (p q : List UInt8) (h : 47 ∉ q) (hp : pathOK (p ++ 47 :: q) = true) : parentM (p ++ 47 :: q) = p := by
  unfold parentM; rw [if_pos hp, parts_last p q h, List.dropLast_concat, join_parts]
theorem base_cut (p q : List UInt8) (h : 47 ∉ q) (hp : pathOK (p ++ 47 :: q) = true) : baseM (p ++ 47 :: q) = q := by
  unfold baseM; rw [if_pos hp]
  simp only [parts_last p q h]
  simp
theorem base_none {s : List UInt8} (h : 47 ∉ s) (hp : pathOK s = true) : baseM s = s := by
  unfold baseM; rw [if_pos hp]; simp only [parts_none s h]; rfl
theorem path_above (p q : List UInt8) (h : 47 ∉ q) (hp : pathOK (p ++ 47 :: q) = true) : pathOK p = true := by
  have h0 := hp
  unfold pathOK at hp
  rw [parts_last p q h] at hp
  simp at hp
  unfold pathOK
  simp
  exact ⟨⟨by omega, by omega⟩, fun x hx => hp.2.1 x hx⟩

/-! ### Within -/
def withinM (p q : List UInt8) : Bool := pathOK p && (q.isEmpty || pathOK q && (p == q || (q ++ [47]).isPrefixOf p))
theorem parts_join_app (t : List UInt8) : ∀ (l : List (List UInt8)), l ≠ [] → (∀ x ∈ l, 47 ∉ x) → parts (joinS l ++ 47 :: t) = l ++ parts t
  | [], h, _ => absurd rfl h
  | [x], _, hno => parts_first x t (hno x (by simp))
  | x :: y :: r, _, hno => by
    have h := parts_join_app t (y :: r) (by simp) (fun z hz => hno z (by simp [hz]))
    show parts ((x ++ 47 :: joinS (y :: r)) ++ 47 :: t) = _
    rw [List.append_assoc, List.cons_append, parts_first _ _ (hno x (by simp)), h]; rfl
theorem prefix_parts (q p : List UInt8) : (p = q ∨ (q ++ [47]) <+: p) ↔ parts q <+: parts p := by
  constructor
  · rintro (rfl | ⟨t, rfl⟩)
    · exact List.prefix_refl _
    · have h := parts_join_app t (parts q) (parts_ne q) (parts_no q)
      rw [join_parts] at h
      rw [List.append_assoc, List.singleton_append, h]
      exact List.prefix_append _ _
  · rintro ⟨r, hr⟩
    have hp := join_parts p
    rw [← hr] at hp
    cases r with
    | nil => left; rw [List.append_nil, join_parts] at hp; exact hp.symm
    | cons y r =>
      right
      rw [← hp, join_append _ _ (parts_ne q) (by simp), join_parts]
      exact ⟨joinS (y :: r), by simp⟩
theorem withinM_parts (p q : List UInt8) : withinM p q = (pathOK p && (q.isEmpty || pathOK q && (parts q).isPrefixOf (parts p))) := by
  unfold withinM
  congr 2
  congr 1
  rw [Bool.eq_iff_iff]
  simp only [Bool.or_eq_true, beq_iff_eq, List.isPrefixOf_iff_prefix]
  exact prefix_parts q p

/-! ### The order -/
def orderP : List (List UInt8) → List (List UInt8) → Int
  | [], [] => 0
  | [], _ :: _ => -1
  | _ :: _, [] => 1
  | x :: xs, y :: ys => if x < y then -1 else if y < x then 1 else orderP xs ys
def orderM (a b : List UInt8) : Int := orderP (parts a) (parts b)
theorem lt_irrefl' (x : List UInt8) : ¬ x < x := List.lt_irrefl x
theorem eq_of_not_lt {x y : List UInt8} (h1 : ¬ x < y) (h2 : ¬ y < x) : x = y := List.le_antisymm (List.not_lt.1 h2) (List.not_lt.1 h1)
theorem orderP_self : ∀ l, orderP l l = 0
  | [] => rfl
  | x :: l => by unfold orderP; rw [if_neg (lt_irrefl' x), if_neg (lt_irrefl' x), orderP_self l]
theorem orderP_cases : ∀ a b, orderP a b = -1 ∨ orderP a b = 0 ∨ orderP a b = 1
  | [], [] => by simp [orderP]
  | [], _ :: _ => by simp [orderP]
  | _ :: _, [] => by simp [orderP]
  | x :: xs, y :: ys => by
    unfold orderP
    split
    · simp
    · split
      · simp
      · exact orderP_cases xs ys
theorem orderP_zero : ∀ a b, orderP a b = 0 ↔ a = b
  | [], [] => by simp [orderP]
  | [], _ :: _ => by simp [orderP]
  | _ :: _, [] => by simp [orderP]
  | x :: xs, y :: ys => by
    unfold orderP
    split
    · rename_i h; simp; rintro rfl; exact absurd h (lt_irrefl' _)
    · split
      · rename_i h; simp; rintro rfl; exact absurd h (lt_irrefl' _)
      · rw [orderP_zero xs ys, eq_of_not_lt (x := x) (y := y) (by assumption) (by assumption)]; simp
theorem orderP_neg : ∀ a b, orderP b a = - orderP a b
  | [], [] => by simp [orderP]
  | [], _ :: _ => by simp [orderP]
  | _ :: _, [] => by simp [orderP]
  | x :: xs, y :: ys => by
    unfold orderP
    by_cases h1 : x < y
    · rw [if_pos h1, if_neg (List.lt_asymm h1), if_pos h1]; rfl
    · by_cases h2 : y < x
      · simp [h1, h2]
      · simp only [h1, h2, if_false]; exact orderP_neg xs ys
theorem orderP_trans : ∀ a b c, orderP a b ≤ 0 → orderP b c ≤ 0 → orderP a c ≤ 0 ∧ (orderP a b < 0 → orderP a c < 0)
  | [], [], [], _, _ => by simp [orderP]
  | [], [], _ :: _, _, _ => by simp [orderP]
  | [], _ :: _, [], _, h => by simp [orderP] at h
  | [], _ :: _, _ :: _, _, _ => by simp [orderP]
  | _ :: _, [], _, h, _ => by simp [orderP] at h
  | _ :: _, _ :: _, [], _, h => by simp [orderP] at h
  | x :: xs, y :: ys, z :: zs, h1, h2 => by
    unfold orderP at h1 h2 ⊢
    by_cases a1 : x < y
    · by_cases b1 : y < z
      · have := List.lt_trans a1 b1; simp [this]
      · by_cases b2 : z < y
        · simp [b1, b2] at h2
        · have := eq_of_not_lt b1 b2; subst this; simp [a1]
    · by_cases a2 : y < x
      · simp [a1, a2] at h1
      · have := eq_of_not_lt a1 a2; subst this
        by_cases b1 : x < z
        · simp [b1]
        · by_cases b2 : z < x
          · simp [b1, b2] at h2
          · have := eq_of_not_lt b1 b2; subst this
            simp only [lt_irrefl', if_false] at h1 h2 ⊢
            exact orderP_trans xs ys zs h1 h2
/-- between a and what is within it stands nothing that isn't -/
theorem orderP_between : ∀ a b c, a <+: c → orderP a b < 0 → orderP b c < 0 → a <+: b
  | [], _, _, _, _, _ => List.nil_prefix
  | x :: xs, [], _, _, h, _ => by simp [orderP] at h
  | x :: xs, y :: ys, [], h, _, _ => by simp at h
  | x :: xs, y :: ys, z :: zs, hp, h1, h2 => by
    rw [List.cons_prefix_cons] at hp
    obtain ⟨rfl, hp⟩ := hp
    unfold orderP at h1 h2
    by_cases a1 : x < y
    · simp [a1, List.lt_asymm a1] at h2
    · by_cases a2 : y < x
      · simp [a1, a2] at h1
      · have := eq_of_not_lt a1 a2; subst this
        simp only [lt_irrefl', if_false] at h1 h2
        exact List.cons_prefix_cons.2 ⟨rfl, orderP_between xs ys zs hp h1 h2⟩

/-! ### Letters made small -/
def lowB (b : UInt8) : UInt8 := if 65 ≤ b ∧ b ≤ 90 then b + 32 else b
def foldM (s : List UInt8) : List UInt8 := s.map lowB
end Go.Proofs.YtjajoiahgfafgaaGreatDoor.Plain
end

/- tree: what a tree is, as plain functions of lists. -/
section
set_option linter.unusedVariables false
namespace Go.Proofs.YtjajoiahgfafgaaGreatDoor
namespace Plain

structure Nd where
  path : List UInt8
  kind : Int
  data : List UInt8
  mode : Int
deriving DecidableEq
instance : Inhabited Nd := ⟨⟨[], 0, [], 0⟩⟩

def rightN (n : Nd) : Bool :=
  if n.kind = 1 then decide (n.data.length ≤ 65536) && decide (0 ≤ n.mode) && decide (n.mode ≤ 511)
  else if n.kind = 2 then n.data.isEmpty && (n.mode == 0)
  else if n.kind = 3 then !n.data.isEmpty && decide (n.data.length ≤ 400) && !n.data.contains 0 && (n.mode == 0)
  else false
def findN (t : List Nd) (s : List UInt8) : Option Nd := t.find? (fun n => n.path == s)
def dirN (t : List Nd) (s : List UInt8) : Bool := s.isEmpty || (match findN t s with | some n => n.kind == 2 | none => false)
def beforeN (t : List Nd) (i : Nat) : Bool := match i with
  | 0 => true
  | k + 1 => decide (orderM (t.getD k default).path (t.getD (k + 1) default).path < 0)
/-- the document's test of a node; 'all' are the nodes among which its directory is looked for -/
def nodeOK (all t : List Nd) (i : Nat) : Bool := pathOK (t.getD i default).path && rightN (t.getD i default) && beforeN t i && dirN all (parentM (t.getD i default).path)
def treeOK (t : List Nd) : Bool := decide (t.length ≤ 1000) && (List.range t.length).all (fun i => nodeOK t t i)

theorem parent_before {s : List UInt8} (h : pathOK s = true) (hne : parentM s ≠ []) : orderM (parentM s) s < 0 := by
  have hp : parentM s = joinS (parts s).dropLast := by unfold parentM; rw [if_pos h]
  have hl : (parts s).dropLast ≠ [] := by intro e; rw [hp, e] at hne; exact hne rfl
  have hpp : parts (parentM s) = (parts s).dropLast := by
    rw [hp]
    exact parts_join _ hl (fun x hx => parts_no s x (List.dropLast_subset _ hx))
  unfold orderM
  rw [hpp]
  have key : ∀ l : List (List UInt8), l ≠ [] → orderP l.dropLast l < 0 := by
    intro l
    induction l with
    | nil => intro h; exact absurd rfl h
    | cons x r ih =>
      intro _
      cases r with
      | nil => rw [List.dropLast_singleton]; show orderP [] [x] < 0; unfold orderP; omega
      | cons y q =>
        rw [List.dropLast_cons_of_ne_nil (by simp)]
        unfold orderP
        rw [if_neg (lt_irrefl' x), if_neg (lt_irrefl' x)]
        exact ih (by simp)
  exact key _ (parts_ne s)

/-- in order, each ahead of all behind it -/
def Srt (t : List Nd) : Prop := ∀ i j, i < j → j < t.length → orderM (t.getD i default).path (t.getD j default).path < 0
theorem order_trans' (a b c : List UInt8) (h1 : orderM a b < 0) (h2 : orderM b c < 0) : orderM a c < 0 := (orderP_trans _ _ _ (by unfold orderM at h1; omega) (by unfold orderM at h2; omega)).2 h1
theorem srt_of {t : List Nd} (h : ∀ i, i < t.length → beforeN t i = true) : Srt t := by
  intro i j hij
  induction j with
  | zero => omega
  | succ j ih =>
    intro hj
    have h1 := h (j + 1) hj
    unfold beforeN at h1
    rw [decide_eq_true_eq] at h1
    by_cases e : i = j
    · subst e; exact h1
    · exact order_trans' _ _ _ (ih (by omega) (by omega)) h1
theorem order_self (a : List UInt8) : orderM a a = 0 := orderP_self _
theorem order_neg' (a b : List UInt8) : orderM b a = - orderM a b := orderP_neg _ _
theorem order_zero' (a b : List UInt8) : orderM a b = 0 ↔ a = b := by
  unfold orderM
  rw [orderP_zero]
  exact ⟨fun h => by rw [← join_parts a, ← join_parts b, h], fun h => by rw [h]⟩

/-- where a path's node can lie -/
theorem findN_some {t : List Nd} {s : List UInt8} {n : Nd} (h : findN t s = some n) : ∃ j, j < t.length ∧ t.getD j default = n ∧ n.path = s := by
  have h1 := List.mem_of_find?_eq_some h
  have h2 := List.find?_some h
  obtain ⟨j, hj, rfl⟩ := List.getElem_of_mem h1
  exact ⟨j, hj, by simp [List.getD, hj], by simpa using h2⟩
theorem findN_none {t : List Nd} {s : List UInt8} : findN t s = none ↔ ∀ j, j < t.length → (t.getD j default).path ≠ s := by
  unfold findN
  rw [List.find?_eq_none]
  constructor
  · intro h j hj
    have := h t[j] (List.getElem_mem hj)
    simpa [List.getD, hj] using this
  · intro h n hn
    obtain ⟨j, hj, rfl⟩ := List.getElem_of_mem hn
    have := h j hj
    simpa [List.getD, hj] using this
theorem findN_at {t : List Nd} {s : List UInt8} {j : Nat} (hs : Srt t) (hj : j < t.length) (h : (t.getD j default).path = s) : findN t s = some (t.getD j default) := by
  cases hf : findN t s with
  | none => exact absurd h (findN_none.1 hf j hj)
  | some n =>
    obtain ⟨k, hk, h1, h2⟩ := findN_some hf
    rcases Nat.lt_trichotomy k j with q | q | q
    · have := hs k j q hj
      rw [h1, h2, h, order_self] at this; omega
    · rw [← q, h1]
    · have := hs j k q hk
      rw [h1, h2, h, order_self] at this; omega
theorem getD_take {t : List Nd} {i j : Nat} (h : j < i) : (t.take i).getD j default = t.getD j default := by
  unfold List.getD
  rw [List.getElem?_take_of_lt h]
theorem srt_take {t : List Nd} (h : Srt t) (i : Nat) : Srt (t.take i) := by
  intro a b hab hb
  have hb' : b < i ∧ b < t.length := by rw [List.length_take] at hb; omega
  rw [getD_take (by omega), getD_take hb'.1]
  exact h a b hab hb'.2
/-- a directory that lies ahead is found among those ahead -/
theorem dirN_take {t : List Nd} (hs : Srt t) {i : Nat} (hi : i < t.length) (hp : pathOK (t.getD i default).path = true) : dirN t (parentM (t.getD i default).path) = dirN (t.take i) (parentM (t.getD i default).path) := by
  unfold dirN
  by_cases hne : parentM (t.getD i default).path = []
  · rw [hne]; rfl
  · have hb := parent_before hp hne
    congr 1
    cases hf : findN t (parentM (t.getD i default).path) with
    | none =>
      have : findN (t.take i) (parentM (t.getD i default).path) = none := by
        rw [findN_none] at hf ⊢
        intro j hj
        have hj' : j < i ∧ j < t.length := by rw [List.length_take] at hj; omega
        rw [getD_take hj'.1]
        exact hf j hj'.2
      rw [this]
    | some n =>
      obtain ⟨j, hj, h1, h2⟩ := findN_some hf
      have hji : j < i := by
        rcases Nat.lt_trichotomy j i with q | q | q
        · exact q
        · subst q
          rw [← h2, h1, order_self] at hb; omega
        · have h3 := hs i j q hj
          rw [h1, h2] at h3
          have := order_trans' _ _ _ hb h3
          rw [order_self] at this; omega
      have hl : j < (t.take i).length := by rw [List.length_take]; omega
      have := findN_at (srt_take hs i) hl (s := parentM (t.getD i default).path) (by rw [getD_take hji, h1]; exact h2)
      rw [this, getD_take hji, h1]
/-- the program's way: a node's directory is looked for among those ahead of it -/
theorem treeOK_take (t : List Nd) : treeOK t = (decide (t.length ≤ 1000) && (List.range t.length).all (fun i => nodeOK (t.take i) t i)) := by
  unfold treeOK
  congr 1
  rw [Bool.eq_iff_iff, List.all_eq_true, List.all_eq_true]
  constructor
  · intro h i hi
    have hs : Srt t := srt_of fun j hj => by
      have := h j (List.mem_range.2 hj)
      unfold nodeOK at this
      simp only [Bool.and_eq_true] at this
      exact this.1.2
    have h1 := h i hi
    unfold nodeOK at h1 ⊢
    simp only [Bool.and_eq_true] at h1 ⊢
    exact ⟨h1.1, by rw [← dirN_take hs (List.mem_range.1 hi) h1.1.1.1]; exact h1.2⟩
  · intro h i hi
    have hs : Srt t := srt_of fun j hj => by
      have := h j (List.mem_range.2 hj)
      unfold nodeOK at this
      simp only [Bool.and_eq_true] at this
      exact this.1.2
    have h1 := h i hi
    unfold nodeOK at h1 ⊢
    simp only [Bool.and_eq_true] at h1 ⊢
    exact ⟨h1.1, by rw [dirN_take hs (List.mem_range.1 hi) h1.1.1.1]; exact h1.2⟩
/-- step by step -/
def restOK (f : Nat → Bool) (i n : Nat) : Bool := (List.range' i (n - i)).all f
theorem restOK_at {f : Nat → Bool} {i n : Nat} (h : i < n) : restOK f i n = (f i && restOK f (i + 1) n) := by
  obtain ⟨k, hk⟩ : ∃ k, n - i = k + 1 := ⟨n - i - 1, by omega⟩
  unfold restOK
  rw [hk, List.range'_succ, List.all_cons, show n - (i + 1) = k by omega]
theorem restOK_end {f : Nat → Bool} {n : Nat} : restOK f n n = true := by unfold restOK; simp
theorem restOK_all {f : Nat → Bool} {n : Nat} : restOK f 0 n = (List.range n).all f := by unfold restOK; rw [Nat.sub_zero, List.range_eq_range']
theorem treeOK_ref {t : List Nd} (h : t.length ≤ 1000) : treeOK t = restOK (fun i => nodeOK t t i) 0 t.length := by
  unfold treeOK; rw [restOK_all, decide_eq_true h, Bool.true_and]
theorem treeOK_own {t : List Nd} (h : t.length ≤ 1000) : treeOK t = restOK (fun i => nodeOK (t.take i) t i) 0 t.length := by
  rw [treeOK_take, restOK_all, decide_eq_true h, Bool.true_and]
theorem treeOK_long {t : List Nd} (h : 1000 < t.length) : treeOK t = false := by
  unfold treeOK; rw [decide_eq_false (by omega)]; rfl
theorem treeOK_srt {t : List Nd} (h : treeOK t = true) : Srt t ∧ t.length ≤ 1000 ∧ ∀ i, i < t.length → nodeOK t t i = true := by
  unfold treeOK at h
  rw [Bool.and_eq_true, List.all_eq_true, decide_eq_true_eq] at h
  refine ⟨srt_of fun j hj => ?_, h.1, fun i hi => h.2 i (List.mem_range.2 hi)⟩
  have := h.2 j (List.mem_range.2 hj)
  unfold nodeOK at this
  simp only [Bool.and_eq_true] at this
  exact this.1.2
end Plain
end Go.Proofs.YtjajoiahgfafgaaGreatDoor
end

/- tree.right. -/
section
set_option linter.unusedVariables false
namespace Go.Proofs.YtjajoiahgfafgaaGreatDoor
open Go.RowKit Plain

/-- a node's cells -/
def ndV (n : Nd) : List Value := [.string ⟨n.path.toArray⟩, .int .i64 n.kind, .string ⟨n.data.toArray⟩, .int .i64 n.mode]

theorem index_has (l : List UInt8) (c : UInt8) : decide (0 ≤ Lib.indexByte l c) = l.contains c := by
  induction l with
  | nil => rfl
  | cons x r ih =>
    have hge := Lib.indexByte_ge r c
    unfold Lib.indexByte
    by_cases h : x = c
    · subst h; simp
    · rw [List.contains_cons, ← ih]
      have hb : (c == x) = false := by simpa using fun e => h e.symm
      rw [hb, Bool.false_or]
      have hx : (x == c) = false := by simpa using h
      rw [hx]
      simp only [Bool.false_eq_true, if_false]
      by_cases e : Lib.indexByte r c = -1
      · rw [e]; rfl
      · have he : (Lib.indexByte r c == -1) = false := by simpa using e
        rw [he]
        simp only [Bool.false_eq_true, if_false]
        rw [decide_eq_decide]
        omega

set_option maxHeartbeats 1000000 in
set_option maxRecDepth 100000 in
theorem right_any (n : Nd) (w : World) (hd : n.data.length ≤ 9223372036854775807) : Calls Tryz.prog 72 #[.agg (ndV n).toArray] w (Ret w (.bool (rightN n))) := by
  obtain ⟨p, k, d, m⟩ := n
  unfold rightN ndV
  simp only at hd ⊢
  have HC := Lib.hid (fun W => (show decide (0 ≤ Lib.indexByte (ByteArray.mk d.toArray).data.toList 0) = d.contains 0 from index_has d 0) ▸ Tryz.strings_Contains_one ⟨d.toArray⟩ 0 W)
  by_cases h1 : k = 1
  · subst h1
    go_enter Tryz.func72, Tryz.ntmps72
    go_wp2_with (fail)
    all_goals
      go_ret
      exact ⟨by first | (simp_all; done) | (simp; omega) | (simp_all; omega), (Below.refl _ _).alloc (Nat.le_refl _) _⟩
  · have e1 : (k == 1) = false := by simp [h1]
    by_cases h2 : k = 2
    · subst h2
      cases d with
      | nil =>
        go_enter Tryz.func72, Tryz.ntmps72
        go_wp2_with (fail)
        all_goals
          go_ret
          exact ⟨by first | (simp_all; done) | (simp; omega) | (simp_all; omega), (Below.refl _ _).alloc (Nat.le_refl _) _⟩
      | cons c r =>
        go_enter Tryz.func72, Tryz.ntmps72
        go_wp2_with (fail)
        all_goals
          go_ret
          exact ⟨by first | (simp_all; done) | (simp; omega) | (simp_all; omega), (Below.refl _ _).alloc (Nat.le_refl _) _⟩
    · by_cases h3 : k = 3
      · subst h3
        cases d with
        | nil =>
          go_enter Tryz.func72, Tryz.ntmps72
          go_wp2_with (fail)
          all_goals
            go_ret
            exact ⟨by first | (simp_all; done) | (simp; omega) | (simp_all; omega), (Below.refl _ _).alloc (Nat.le_refl _) _⟩
        | cons c r =>
          go_enter Tryz.func72, Tryz.ntmps72
          go_wp2_with (go_at_call 95; refine (HC.out _).mono ?_; rintro e w1 ⟨rfl, rfl⟩)
          all_goals
            go_ret
            exact ⟨by first | (simp_all; done) | (simp; omega) | (simp_all; omega), (Below.refl _ _).alloc (Nat.le_refl _) _⟩
      · go_enter Tryz.func72, Tryz.ntmps72
        go_wp2_with (fail)
        all_goals
          go_ret
          exact ⟨by first | (simp_all; done) | (simp; omega) | (simp_all; omega), (Below.refl _ _).alloc (Nat.le_refl _) _⟩
end Go.Proofs.YtjajoiahgfafgaaGreatDoor
end
