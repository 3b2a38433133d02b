/- Texts joined: QuietRest, Arch3, HashCrc, Rec1, Rec2, Arch4, WholeRows. -/
import Derived.Test.YtjajoiahgfafgaaDoorBArchTurned6
import Derived.Test.YtjajoiahgfafgaaDoorBArchTurned3
import Derived.Test.YtjajoiahgfafgaaDoorBCodeBase2
import Derived.Test.YtjajoiahgfafgaaDoorBCodeBase1
import Derived.Test.YtjajoiahgfafgaaDoorBArchTurned5
import Derived.Deep.MidRow
set_option linter.unusedSimpArgs false
set_option linter.unusedVariables false

/- A region that draws its order: a head whose operations each yield one value in every world of a class, and behind it a rest in whatever order. -/
section
namespace Go.Proofs.YtjajoiahgfafgaaDoor
open Go.RowKit

/-- Each operation of the rest waits for the head's last one, or for one of the rest ahead of it. -/
def restB (md : Region.Mode) (ops : Array Oper) (n : Nat) : Bool :=
  (List.range ops.size).all fun t => decide (t ≤ n) || (List.range t).any fun j => decide (n ≤ j) && Region.waitsFor md ops t j
def finL (n m : Nat) : Array Bool := (List.replicate n true ++ List.replicate (m - n) false).toArray
def lexTo (md : Region.Mode) (ops : Array Oper) (fin : Array Bool) : Nat → Nat → Array Bool → Bool
  | 0, _, listed => decide (listed = fin)
  | f + 1, k, listed => (Region.ready md ops listed).contains k && Region.free md ops listed k && lexTo md ops fin f (k + 1) (listed.setIfInBounds k true)
/-- n is the head's last operation. -/
def quietRestB (md : Region.Mode) (ops : Array Oper) (n : Nat) : Bool :=
  Region.noSelect ops && decide (n + 1 < ops.size) && Region.sinkB md ops n && restB md ops n && lexTo md ops (finL (n + 1) ops.size) (n + 1) 0 (Array.replicate ops.size false) && (Region.ready md ops (finL (n + 1) ops.size)).all (fun j => decide (n + 1 ≤ j))

section
variable {P : Program} {ops : Array Oper} {md : Region.Mode} {C : World → Prop}
theorem rest_waits {n : Nat} {listed : Array Bool} (hc : restB md ops n = true) (inv : HeadInv md ops (n + 1) listed) (hnl : listed.getD n true = false) :
    ∀ t, n < t → t ∉ Region.ready md ops listed := by
  intro t
  induction t using Nat.strongRecOn with
  | _ t ih =>
    intro ht hr
    obtain ⟨hun, ot, hot, hall⟩ := mem_ready.1 hr
    have htlt : t < ops.size := (Array.getElem?_eq_some_iff.1 hot).1
    have h1 := List.all_eq_true.1 hc t (List.mem_range.2 htlt)
    simp only [Bool.or_eq_true, decide_eq_true_eq] at h1
    rcases h1 with h1 | h1
    · omega
    · obtain ⟨j, hj, hj2⟩ := List.any_eq_true.1 h1
      simp only [Bool.and_eq_true, decide_eq_true_eq] at hj2
      obtain ⟨o', ho', e, he, hb, hon⟩ := Region.waitsFor_spec hj2.2
      have : o' = ot := Option.some.inj (ho'.symm.trans hot)
      subst this
      have h2 := hall e he hb
      have hjt := List.mem_range.1 hj
      rw [hon] at h2
      by_cases hjn : j = n
      · subst hjn
        rw [getD_both hnl] at h2; cases h2
      · rw [getD_both (inv.tail j (by omega) (by omega))] at h2; cases h2
theorem sink_last {n : Nat} {listed : Array Bool} (hs : Region.sinkB md ops n = true) (hn : n < ops.size) (inv : HeadInv md ops (n + 1) listed) : ∀ (d i : Nat), n - i = d → i ≤ n → listed.getD i true = false → listed.getD n true = false := by
  intro d
  induction d using Nat.strongRecOn with
  | _ d ih =>
    intro i hd hi hun
    by_cases hin : i = n
    · subst hin; exact hun
    · have h1 := List.all_eq_true.1 hs i (List.mem_range.2 (by omega))
      obtain ⟨j, hj, hj2⟩ := List.any_eq_true.1 h1
      simp only [Bool.and_eq_true, decide_eq_true_eq] at hj2
      obtain ⟨oj, hoj, e, he, hb, hon⟩ := Region.waitsFor_spec hj2.2
      have hjle := List.mem_range.1 hj
      have hjs : j < listed.size := by rw [inv.size]; omega
      cases hl : listed.getD j false with
      | true =>
        have h2 := inv.closed j oj hoj hl e he hb
        rw [hon, getD_both hun] at h2
        cases h2
      | false => exact ih (n - j) (by omega) j rfl (by omega) (getD_in hjs hl)

theorem wpAnyQR_first {n i : Nat} {oi : Oper} {v : Value} {L : Array Bool → Act → Prop} {G : Array Bool → Prop} (hG : ∀ listed j, G listed → G (listed.setIfInBounds j true)) (hi : ops[i]? = some oi) (hsel : ∀ (j : Nat) (o : Oper) cs b, ops[j]? = some o → o.op ≠ .select cs b)
    (hw : ∀ listed, HeadInv md ops n listed → G listed → ∀ i, i < n → listed.getD i true = false → ∀ t, n ≤ t → t ∉ Region.ready md ops listed) (hin : i < n)
    (hdone : ∀ listed a, L listed a → ∀ j ∈ Region.ready md ops listed, n ≤ j) :
    ∀ (f : Nat) (listed : Array Bool) (a : Act), HeadInv md ops n listed → G listed →
      (∀ j oj, ops[j]? = some oj → j ≠ i → listed.getD j true = false → (∀ e ∈ oj.after, Region.binds md e = true → e.on ≠ i) → oi.apart ops oj = true) →
      i ∈ Region.ready md ops listed → YieldsIn P ops C oi v a →
      wpAnyQL P md ops C n L f (listed.setIfInBounds i true) (a.put oi.dst v) → wpAnyQL P md ops C n L (f + 1) listed a := by
  intro f
  induction f with
  | zero =>
    intro listed a inv g _ hr hy H
    have hun := (mem_ready.1 hr).1
    refine ⟨fun h => (by rw [h] at hr; cases hr), fun j hj => ?_⟩
    have hjn : j < n := by
      rcases Nat.lt_or_ge j n with h | h
      · exact h
      · exact absurd hj (hw listed inv g i hin hun j h)
    refine ⟨hjn, ?_⟩
    by_cases hji : j = i
    · subst hji; exact hy.qOp hi H
    · have := hdone _ _ H j (ready_mono hj hji)
      omega
  | succ f ih =>
    intro listed a inv g hfree hr hy H
    have hun := (mem_ready.1 hr).1
    refine ⟨fun h => (by rw [h] at hr; cases hr), fun j hj => ?_⟩
    have hjn : j < n := by
      rcases Nat.lt_or_ge j n with h | h
      · exact h
      · exact absurd hj (hw listed inv g i hin hun j h)
    refine ⟨hjn, ?_⟩
    by_cases hji : j = i
    · subst hji; exact hy.qOp hi H
    · have h1 := (H.2 j (ready_mono hj hji)).2
      obtain ⟨hjun, oj, hoj, hall⟩ := mem_ready.1 hj
      have hnot : ∀ e ∈ oj.after, Region.binds md e = true → e.on ≠ i := fun e he hb heq => by
        have h1 := hall e he hb
        rw [heq, getD_both hun] at h1
        cases h1
      have h2 := qOp_put hoj (hfree j oj hoj hji hjun hnot) (fun cs b => hsel i oi cs b hi) (fun cs b => hsel j oj cs b hoj) hy h1
      have hfree' : ∀ k ok, ops[k]? = some ok → k ≠ i → (listed.setIfInBounds j true).getD k true = false →
          (∀ e ∈ ok.after, Region.binds md e = true → e.on ≠ i) → oi.apart ops ok = true := fun k ok hk hki hun hno => by
        refine hfree k ok hk hki ?_ hno
        by_cases hjk : j = k
        · subst hjk; exact hjun
        · rw [getD_set_ne true hjk] at hun; exact hun
      refine qOp_mono (fun a' h3 => ih (listed.setIfInBounds j true) a' (inv.set hj hjn) (hG _ _ g) hfree' (ready_mono hr (Ne.symm hji)) h3.1 ?_) h2
      rw [Array.setIfInBounds_comm _ _ hji]
      exact h3.2

theorem wpAnyQR_lex {n : Nat} {fin : Array Bool} {Lq : Act → Prop} {G : Array Bool → Prop} (hG : ∀ listed j, G listed → G (listed.setIfInBounds j true)) (hsel : Region.noSelect ops = true) (hw : ∀ listed, HeadInv md ops n listed → G listed → ∀ i, i < n → listed.getD i true = false → ∀ t, n ≤ t → t ∉ Region.ready md ops listed)
    (hf : ∀ j ∈ Region.ready md ops fin, n ≤ j) :
    ∀ (l : List Oper) (k : Nat) (listed : Array Bool) (a : Act), (∀ j, j < l.length → l[j]? = ops[k + j]?) → k + l.length = n → HeadInv md ops n listed → G listed →
    lexTo md ops fin l.length k listed = true → wpQuiet P ops C Lq l a →
    wpAnyQL P md ops C n (fun listed' a' => listed' = fin ∧ Lq a') l.length listed a
  | [], k, listed, a, _, hk, _, _, hB, h => ⟨by simpa [lexTo] using hB, h⟩
  | o :: l, k, listed, a, hl, hk, inv, g, hB, h => by
    have h0 : ops[k]? = some o := by simpa using (hl 0 (by simp)).symm
    simp only [List.length_cons, lexTo, Bool.and_eq_true] at hB
    obtain ⟨⟨hr, hfr⟩, hB'⟩ := hB
    have hkn : k < n := by simp only [List.length_cons] at hk; omega
    have hr' : k ∈ Region.ready md ops listed := by simpa using hr
    have hst : qOp P ops C k (wpQuiet P ops C Lq l) a := by unfold qOp; simp only [h0]; exact h
    obtain ⟨v, hy, hK⟩ := yieldsIn_of_qOp h0 hst
    exact wpAnyQR_first hG h0 (Region.noSelect_spec hsel) hw hkn (fun listed' a' hL => by rw [hL.1]; exact hf) l.length listed a inv g (Region.free_spec h0 hfr) hr' hy
      (wpAnyQR_lex hG hsel hw hf l (k + 1) _ _ (fun j hj => by have := hl (j + 1) (by simp; omega); simpa [Nat.add_assoc, Nat.add_comm 1 j] using this) (by simp only [List.length_cons] at hk; omega) (inv.set hr' hkn) (hG _ _ g) hB' hK)
end

/-- The head: loads, and calls that keep old memory (its last operation: n); the rest: in whatever order. -/
theorem wp_region_quiet_rest {P : Program} {id : Nat} {Q : Exit → Act → World → Prop} {a : Act} {w : World} {l : List Oper} (n : Nat) (hm : P.follows .mixedOrders = true) (hB : quietRestB .any l.toArray n = true)
    (h : wpQuiet P l.toArray (fun W => Below w.heap.size w W) (fun a' => ∀ W, Below w.heap.size w W → wpAny P .any l.toArray Q (l.length - (n + 1)) (finL (n + 1) l.length) a' W) (l.take (n + 1)) a) : (Code.region id l.toArray true).wp P Q a w := by
  simp only [quietRestB, Bool.and_eq_true, decide_eq_true_eq] at hB
  obtain ⟨⟨⟨⟨⟨hsel, hn⟩, hs⟩, hc⟩, hlex⟩, hall⟩ := hB
  have hn' : n + 1 < l.length := by simpa using hn
  have htl : (l.take (n + 1)).length = n + 1 := by simp; omega
  have inv0 : HeadInv .any l.toArray (n + 1) (Array.replicate l.toArray.size false) :=
    ⟨by simp, fun j oj _ hl => (by rw [getD_replicate_false] at hl; cases hl), fun t _ ht => getD_in (by simpa using ht) (getD_replicate_false _ _)⟩
  have hsz : l.toArray.size = l.length := by simp
  rw [hsz] at hlex hall
  have H := wpAnyQR_lex (md := .any) (G := fun _ => True) (fun _ _ _ => trivial) hsel (fun listed inv _ i hi hun t ht => rest_waits hc inv (sink_last hs (by omega) inv _ i rfl (by omega) hun) t (by omega)) (fun j hj => by have := List.all_eq_true.1 hall j hj; simpa using this) (l.take (n + 1)) 0 _ a (fun j hj => by
    have hj' : j < n + 1 := by rw [htl] at hj; exact hj
    simp [hj']) (by simpa using htl) inv0 trivial (by rw [htl, hsz]; exact hlex) h
  refine wp_region_any hm ?_
  have := wpAny_of_qhead (Q' := Q) (g := l.length - (n + 1)) (fun listed a' W hW hL => by
    rw [hL.1]; exact hL.2 W hW) _ _ _ { w with drawn := w.drawn + 1 } ⟨rfl, rfl, rfl, Nat.le_refl _, fun _ _ => rfl⟩ H
  rw [htl, show n + 1 + (l.length - (n + 1)) = l.toArray.size by rw [hsz]; omega] at this
  exact this

/-- The same, where the first operation (one that asks no world) is taken ahead, and only the rest waits for it. -/
def quietRest1B (md : Region.Mode) (ops : Array Oper) (n : Nat) : Bool :=
  Region.noSelect ops && decide (n + 1 < ops.size) && ((List.range n).all fun i => decide (i = 0) || (List.range (n + 1)).any fun j => decide (i < j) && Region.waitsFor md ops j i) && restB md ops n &&
    lexTo md ops (finL (n + 1) ops.size) n 1 ((Array.replicate ops.size false).setIfInBounds 0 true) && (Region.ready md ops (finL (n + 1) ops.size)).all (fun j => decide (n + 1 ≤ j)) &&
    Region.free md ops (Array.replicate ops.size false) 0 && (Region.ready md ops (Array.replicate ops.size false)).contains 0
theorem sink_last1 {md : Region.Mode} {ops : Array Oper} {n : Nat} {listed : Array Bool} (hs : ((List.range n).all fun i => decide (i = 0) || (List.range (n + 1)).any fun j => decide (i < j) && Region.waitsFor md ops j i) = true) (hn : n < ops.size) (inv : HeadInv md ops (n + 1) listed) :
    ∀ (d i : Nat), n - i = d → 1 ≤ i → i ≤ n → listed.getD i true = false → listed.getD n true = false := by
  intro d
  induction d using Nat.strongRecOn with
  | _ d ih =>
    intro i hd h1i hi hun
    by_cases hin : i = n
    · subst hin; exact hun
    · have h1 := List.all_eq_true.1 hs i (List.mem_range.2 (by omega))
      simp only [Bool.or_eq_true, decide_eq_true_eq] at h1
      rcases h1 with h1 | h1
      · omega
      obtain ⟨j, hj, hj2⟩ := List.any_eq_true.1 h1
      simp only [Bool.and_eq_true, decide_eq_true_eq] at hj2
      obtain ⟨oj, hoj, e, he, hb, hon⟩ := Region.waitsFor_spec hj2.2
      have hjle := List.mem_range.1 hj
      have hjs : j < listed.size := by rw [inv.size]; omega
      cases hl : listed.getD j false with
      | true =>
        have h2 := inv.closed j oj hoj hl e he hb
        rw [hon, getD_both hun] at h2
        cases h2
      | false => exact ih (n - j) (by omega) j rfl (by omega) (by omega) (getD_in hjs hl)
theorem wp_region_move_quiet_rest {P : Program} {id : Nat} {Q : Exit → Act → World → Prop} {a : Act} {w : World} {l : List Oper} {o0 : Oper} {v0 : Value} (d : Nat) (n : Nat) (hm : P.follows .mixedOrders = true) (hB : quietRest1B .any l.toArray n = true)
    (h0 : l.toArray[0]? = some o0) (hd : o0.dst = some d) (hQ : ∀ c a w, Q (.panic c) (a.put o0.dst v0) w → Q (.panic c) a w) (hy : Yields P l.toArray o0 v0 a)
    (h : wpQuiet P l.toArray (fun W => Below w.heap.size w W) (fun a' => ∀ W, Below w.heap.size w W → wpAny P .any l.toArray Q (l.length - (n + 1)) (finL (n + 1) l.length) a' W) ((l.take (n + 1)).drop 1) (a.put (some d) v0)) : (Code.region id l.toArray true).wp P Q a w := by
  rw [← hd] at h
  simp only [quietRest1B, Bool.and_eq_true, decide_eq_true_eq] at hB
  obtain ⟨⟨⟨⟨⟨⟨⟨hsel, hn⟩, hs⟩, hc⟩, hlex⟩, hall⟩, hfree⟩, hready⟩ := hB
  have hn' : n + 1 < l.length := by simpa using hn
  have htl : ((l.take (n + 1)).drop 1).length = n := by simp; omega
  have inv0 : HeadInv .any l.toArray (n + 1) (Array.replicate l.toArray.size false) :=
    ⟨by simp, fun j oj _ hl => (by rw [getD_replicate_false] at hl; cases hl), fun t _ ht => getD_in (by simpa using ht) (getD_replicate_false _ _)⟩
  have hr0 : 0 ∈ Region.ready .any l.toArray (Array.replicate l.toArray.size false) := by simpa using hready
  have inv1 := inv0.set hr0 (by omega)
  have hsz : l.toArray.size = l.length := by simp
  rw [hsz] at hlex hall inv1
  rw [hsz] at hfree hready
  have H := wpAnyQR_lex (md := .any) (G := fun listed => listed.getD 0 true = true) (fun listed j g => by
      by_cases hj : j = 0
      · subst hj
        by_cases hs : 0 < listed.size
        · simp [Array.getD, hs]
        · simp [Array.getD, hs]
      · rw [getD_set_ne true hj]; exact g) hsel (n := n + 1) (fun listed inv g i hi hun t ht => by
    by_cases hi0 : i = 0
    · subst hi0
      rw [g] at hun; cases hun
    · exact rest_waits hc inv (sink_last1 hs (by omega) inv _ i rfl (by omega) (by omega) hun) t (by omega)) (fun j hj => by have := List.all_eq_true.1 hall j hj; simpa using this) ((l.take (n + 1)).drop 1) 1 _ (a.put o0.dst v0) (fun j hj => by
    have hj' : j < n := Nat.lt_of_lt_of_eq hj htl
    rw [List.getElem?_drop, List.getElem?_take_of_lt (by omega)]; simp) (by rw [htl]; omega) inv1 (by simp [Array.getD]) (by rw [htl]; exact hlex) h
  refine wp_region_any hm ?_
  have := wpAny_of_qhead (Q' := Q) (g := l.length - (n + 1)) (fun listed a' W hW hL => by
    rw [hL.1]; exact hL.2 W hW) _ _ _ { w with drawn := w.drawn + 1 } ⟨rfl, rfl, rfl, Nat.le_refl _, fun _ _ => rfl⟩ H
  rw [htl] at this
  have h2 := wpAny_take (Q := Q) h0 hsel hfree hready hQ hy this
  rw [show n + (l.length - (n + 1)) + 1 = l.toArray.size by rw [hsz]; omega] at h2
  rw [hsz] at h2 ⊢
  exact h2
end Go.Proofs.YtjajoiahgfafgaaDoor
end

/- arch's writer: texts, nums. -/
section
set_option linter.unusedVariables false
namespace Go.Proofs.YtjajoiahgfafgaaDoor
open Go.RowKit Plain

theorem below_others {e : TypeId} {b : Option Nat} {w W : World} (h : Below w.heap.size w W) : Lib.OthersKept e b w W := fun k o hk _ _ => (h.block k (Array.getElem?_eq_some_iff.1 hk).1).trans hk
/-- the writer behind a call: what it holds; older memory, and whatever is no row of bytes, is kept -/
def Wr (B b : Nat) (s : List UInt8) (w w' : World) : Prop := Lib.IsBuilderF 40 5 B b (Lib.byteCells s) w' ∧ Below B w w' ∧ Lib.OthersKept 5 (some b) w w'
theorem Wr.below {B b : Nat} {s : List UInt8} {w w1 w2 : World} (h : Wr B b s w w1) (hB : B ≤ w.heap.size) (hb : Below w1.heap.size w1 w2) : Wr B b s w w2 :=
  ⟨builder_below h.1 hb, h.2.1.trans (hb.mono (Nat.le_trans hB h.2.1.size)), h.2.2.trans (below_others hb)⟩
theorem Wr.trans {B b : Nat} {s t : List UInt8} {w w1 w2 : World} (h : Wr B b s w w1) (k : Wr B b t w1 w2) : Wr B b t w w2 := ⟨k.1, h.2.1.trans k.2.1, h.2.2.trans k.2.2⟩

set_option maxHeartbeats 1000000 in
set_option maxRecDepth 100000 in
theorem texts_any (B b : Nat) (s : List UInt8) (l : List (List UInt8)) (A : Option Addr) (c : Nat) (w : World) (hbl : Lib.IsBuilderF 40 5 B b (Lib.byteCells s) w) (hB : B ≤ w.heap.size) (hA : ∀ W, Lib.OthersKept 5 (some b) w W → Reads W 1 A l.length (strs l))
    (hl : ∀ t ∈ l, t.length ≤ 140737488355328) (hn : l.length ≤ 1048576) (hs : s.length + (textsB l).length ≤ 140737488355328) :
    Calls Tryd.prog 11 #[.pointer (some ⟨b, 0, none⟩), .slice A l.length c] w fun e w' => e = .returned (.tuple #[]) ∧ Wr B b (s ++ textsB l) w w' := by
  have HA := Lib.hid hA
  have HL := Lib.hid hl
  have HS := Lib.hid hs
  have HW0 : Hid (Wr B b (s ++ textsB (l.take 0)) w w) := Lib.hid ⟨by simpa [textsB] using hbl, Below.refl _ _, Lib.OthersKept.refl _ _ _⟩
  clear hA hl hs hbl
  go_enter Tryd.func11, Tryd.ntmps11
  go_wp2_with (fail)
  go_loopw [8] (fun t8 W => ∃ k : Nat, k ≤ l.length ∧ t8 = .int .i64 k ∧ Hid (Wr B b (s ++ textsB (l.take k)) w W)) (fun t8 _ => l.length - (intOf t8).toNat)
  case atStart => exact ⟨0, by omega, rfl, HW0⟩
  case round =>
    clear HW0
    obtain ⟨k, hk, rfl, HW⟩ := hrel
    have i0 : (0 : Int) ≤ k := by omega
    have e1 : IntKind.i64.wrap ((k : Int) + 1) = (k : Int) + 1 := IntWalk.i64_in _ (by omega)
    by_cases hlt : k < l.length
    · have i1 : (k : Int) < l.length := by omega
      obtain ⟨ad, rfl, hcell⟩ := (HA.out _ HW.out.2.2).str_at hlt
      have hsn := textsB_snoc hlt
      have hlen : (textsB (l.take (k + 1))).length ≤ (textsB l).length := by
        have h1 : textsB l = textsB (l.take (k + 1)) ++ textsB (l.drop (k + 1)) := by
          unfold textsB; rw [← List.flatMap_append, List.take_append_drop]
        rw [h1, List.length_append]; omega
      have hx := HL.out _ (List.getElem_mem hlt)
      generalize l[k] = x at *
      have HSN := Lib.hid hsn
      have HCALL := Lib.hid (fun W => CText_any x W hx)
      have hlx : (s ++ textsB (l.take k)).length + (textB x).length ≤ 140737488355328 := by
        have := HS.out
        rw [hsn, List.length_append] at hlen
        rw [List.length_append]; omega
      have HLX := Lib.hid hlx
      clear hsn hlen hx hlx
      generalize textB x = y at *
      go_wp2_with (fail)
      refine wp_region_quiet_tail 5 (by kernel_rfl) (by kernel_rfl) ?_
      simp only [List.take, List.drop]
      iterate 5 (go_big_quiet_step ((intro hW; go_at_call 28; exact Ret.quiet hW (HCALL.out _))))
      refine wpQuiet_nil ?_
      intro W hW
      have HW2 := Lib.hid (HW.out.below hB hW)
      clear hW
      go_wp2_with (fail)
      refine (WriteStringW_list B b (s ++ textsB (l.take k)) y _ HW2.out.1 HLX.out (Nat.le_trans hB HW2.out.2.1.size)).mono ?_
      rintro e w2 ⟨rfl, h1, h2, h3⟩
      have HW3 : Hid (Wr B b (s ++ textsB (l.take (k + 1))) w w2) := Lib.hid (by rw [HSN.out, ← List.append_assoc]; exact HW2.out.trans ⟨h1, h2, h3⟩)
      clear h1 h2 h3
      go_wp2_with (fail)
      go_roundw
      case rel => exact ⟨k + 1, by omega, by go_num, HW3⟩
      case measure => simp [intOf]; omega
    · obtain rfl : k = l.length := by omega
      have HW3 : Hid (Wr B b (s ++ textsB l) w wr) := by have := HW; rwa [List.take_of_length_le (Nat.le_refl _)] at this
      go_wp2_with (fail)
      go_end0
      exact ⟨rfl, HW3.out⟩

theorem num_int (n : Int) (w : World) (h0 : 0 ≤ n) (h : n < 9223372036854775808) : Calls Tryd.prog 29 #[.int .i64 n] w (Ret w (.string ⟨(numB n.toNat).toArray⟩)) := by
  obtain ⟨k, rfl⟩ := Int.eq_ofNat_of_zero_le h0
  exact Num_any k w (by omega)

set_option maxHeartbeats 1000000 in
set_option maxRecDepth 100000 in
theorem nums_any (B b : Nat) (s : List UInt8) (l : List Int) (A : Option Addr) (c : Nat) (w : World) (hbl : Lib.IsBuilderF 40 5 B b (Lib.byteCells s) w) (hB : B ≤ w.heap.size) (hA : ∀ W, Lib.OthersKept 5 (some b) w W → Reads W 1 A l.length (ints l))
    (hl : ∀ t ∈ l, 0 ≤ t ∧ t < 9223372036854775808) (hn : l.length ≤ 1048576) (hs : s.length + (numsB l).length ≤ 140737488355328) :
    Calls Tryd.prog 12 #[.pointer (some ⟨b, 0, none⟩), .slice A l.length c] w fun e w' => e = .returned (.tuple #[]) ∧ Wr B b (s ++ numsB l) w w' := by
  have HA := Lib.hid hA
  have HL := Lib.hid hl
  have HS := Lib.hid hs
  have HW0 : Hid (Wr B b (s ++ numsB (l.take 0)) w w) := Lib.hid ⟨by simpa [numsB] using hbl, Below.refl _ _, Lib.OthersKept.refl _ _ _⟩
  clear hA hl hs hbl
  go_enter Tryd.func12, Tryd.ntmps12
  go_wp2_with (fail)
  go_loopw [8] (fun t8 W => ∃ k : Nat, k ≤ l.length ∧ t8 = .int .i64 k ∧ Hid (Wr B b (s ++ numsB (l.take k)) w W)) (fun t8 _ => l.length - (intOf t8).toNat)
  case atStart => exact ⟨0, by omega, rfl, HW0⟩
  case round =>
    clear HW0
    obtain ⟨k, hk, rfl, HW⟩ := hrel
    have i0 : (0 : Int) ≤ k := by omega
    have e1 : IntKind.i64.wrap ((k : Int) + 1) = (k : Int) + 1 := IntWalk.i64_in _ (by omega)
    by_cases hlt : k < l.length
    · have i1 : (k : Int) < l.length := by omega
      obtain ⟨ad, rfl, hcell⟩ := (HA.out _ HW.out.2.2).int_at hlt
      have hsn := numsB_snoc hlt
      have hlen : (numsB (l.take (k + 1))).length ≤ (numsB l).length := by
        have h1 : numsB l = numsB (l.take (k + 1)) ++ numsB (l.drop (k + 1)) := by
          unfold numsB; rw [← List.flatMap_append, List.take_append_drop]
        rw [h1, List.length_append]; omega
      have hx := HL.out _ (List.getElem_mem hlt)
      generalize l[k] = x at *
      rw [if_pos hx.1] at hsn
      have HSN := Lib.hid hsn
      have HCALL := Lib.hid (fun W => num_int x W hx.1 hx.2)
      have hlx : (s ++ numsB (l.take k)).length + (numB x.toNat).length ≤ 140737488355328 := by
        have := HS.out
        rw [hsn, List.length_append] at hlen
        rw [List.length_append]; omega
      have HLX := Lib.hid hlx
      clear hsn hlen hx hlx
      generalize numB x.toNat = y at *
      go_wp2_with (fail)
      refine wp_region_quiet_tail 5 (by kernel_rfl) (by kernel_rfl) ?_
      simp only [List.take, List.drop]
      iterate 5 (go_big_quiet_step ((intro hW; go_at_call 29; exact Ret.quiet hW (HCALL.out _))))
      refine wpQuiet_nil ?_
      intro W hW
      have HW2 := Lib.hid (HW.out.below hB hW)
      clear hW
      go_wp2_with (fail)
      refine (WriteStringW_list B b (s ++ numsB (l.take k)) y _ HW2.out.1 HLX.out (Nat.le_trans hB HW2.out.2.1.size)).mono ?_
      rintro e w2 ⟨rfl, h1, h2, h3⟩
      have HW3 : Hid (Wr B b (s ++ numsB (l.take (k + 1))) w w2) := Lib.hid (by rw [HSN.out, ← List.append_assoc]; exact HW2.out.trans ⟨h1, h2, h3⟩)
      clear h1 h2 h3
      go_wp2_with (fail)
      go_roundw
      case rel => exact ⟨k + 1, by omega, by go_num, HW3⟩
      case measure => simp [intOf]; omega
    · obtain rfl : k = l.length := by omega
      have HW3 : Hid (Wr B b (s ++ numsB l) w wr) := by have := HW; rwa [List.take_of_length_le (Nat.le_refl _)] at this
      go_wp2_with (fail)
      go_end0
      exact ⟨rfl, HW3.out⟩
end Go.Proofs.YtjajoiahgfafgaaDoor
end


section
namespace Go.Proofs.YtjajoiahgfafgaaDoor
open Go.RowKit Plain

set_option maxHeartbeats 400000 in
theorem Crc_any (s : List UInt8) (w : World) (hs : s.length ≤ 9223372036854775807) :
    Calls Tryd.prog 31 #[.string ⟨s.toArray⟩] w (Ret w (.int .u32 (crc s))) := by
  go_enter Tryd.func31, Tryd.ntmps31
  go_wp2_with (fail)
  go_loopw [4, 5, 8, 13] (fun t4 t5 t8 t13 W => ∃ (k : Nat) (C : Array Value), k ≤ 16 ∧ t8 = .int .i64 k ∧ W = w.alloc (.cells C 87) ∧ C.size = 16 ∧ ∀ j, j < k → C[j]? = some (.int .u32 (bits1 4 j : Nat))) (fun _ _ t8 _ _ => 16 - (intOf t8).toNat)
  case atStart => exact ⟨0, _, by omega, rfl, rfl, rfl, fun j h => by omega⟩
  case round =>
    obtain ⟨k, C, hk, rfl, rfl, hC, hT⟩ := hrel
    by_cases hlt : k < 16
    · have HT := Lib.hid hT
      clear hT
      go_wp2_with (fail)
      go_loop [5, 13] (fun t5 t13 => ∃ j : Nat, j ≤ 4 ∧ t13 = .int .i64 j ∧ t5 = .int .u32 (bits1 j k : Nat)) (fun _ t13 => 4 - (intOf t13).toNat)
      case atStart => exact ⟨0, by omega, rfl, by simp [bits1]⟩
      case round =>
        obtain ⟨j, hj, rfl, rfl⟩ := hrel
        have hb := bits1_lt (n := j) (v := k) (by omega)
        by_cases hlt : j < 4
        · generalize hx : bits1 j k = x at *
          have HX := Lib.hid hx
          clear hx
          go_wp2_with (fail)
          go_round
          case rel => exact ⟨j + 1, by omega, by go_num, by rw [bit1_go x hb, ← HX.out]; rfl⟩
          case measure => simp [intOf]; omega
        · obtain rfl : j = 4 := by omega
          go_wp2_with (fail)
          go_roundw
          case rel =>
            refine ⟨k + 1, _, by omega, by go_num, rfl, by simp [hC], fun j hj => ?_⟩
            by_cases hjk : j = k
            · subst hjk
              simp [hC, hlt]
            · rw [Array.getElem?_setIfInBounds, if_neg (by omega)]
              exact HT.out j (by omega)
          case measure => simp [intOf]; omega
    · obtain rfl : k = 16 := by omega
      have HT := Lib.hid hT
      clear hT
      go_wp2_with (fail)
      go_loop [6, 7, 29] (fun t6 t7 t29 => ∃ i : Nat, i ≤ s.length ∧ t29 = .int .i64 i ∧ t6 = .int .u32 (crcRun (s.take i) : Nat)) (fun _ _ t29 => s.length - (intOf t29).toNat)
      case atStart => exact ⟨0, by omega, rfl, rfl⟩
      case round =>
        obtain ⟨i, hi, rfl, rfl⟩ := hrel
        have hv := crcRun_lt (s.take i)
        by_cases hlt : i < s.length
        · have hstep : crcRun (s.take (i + 1)) = nib (nib (crcRun (s.take i) ^^^ s[i].toNat)) := by
            unfold crcRun
            rw [List.take_succ_eq_append_getElem hlt, List.foldl_append]
            simp [crcB_nib]
          have hc : s[i].toNat < 256 := s[i].toNat_lt
          obtain ⟨x1, m1, x2, m2, x3, hx1, hm1, hx2, hm2, e1, e2, e3, e4, e5, hx3⟩ := nib_go (crcRun (s.take i)) s[i].toNat hv hc
          rw [← hx3] at hstep
          have HS := Lib.hid hstep
          clear hstep hx3
          generalize crcRun (s.take i) = v at *
          generalize hci : s[i] = c at *
          have c1 : (w.alloc (.cells C 87)).cell? ⟨w.heap.size, m1, none⟩ = some (.int .u32 (bits1 4 m1 : Nat)) := by
            rw [cell_of_row _ _ _ C 87 (0, 0) (heap_alloc_new w _)]; exact HT.out m1 hm1
          have c2 : (w.alloc (.cells C 87)).cell? ⟨w.heap.size, m2, none⟩ = some (.int .u32 (bits1 4 m2 : Nat)) := by
            rw [cell_of_row _ _ _ C 87 (0, 0) (heap_alloc_new w _)]; exact HT.out m2 hm2
          go_wp2_with (fail)
          go_round
          case rel => exact ⟨i + 1, by omega, by go_num, by rw [HS.out]⟩
          case measure => simp [intOf]; omega
        · obtain rfl : i = s.length := by omega
          go_wp2_with (fail)
          go_ret
          refine ⟨?_, (Below.refl _ _).alloc (Nat.le_refl _) _⟩
          have h := not_go (crcRun s) (crcRun_lt s)
          simp only [Array.getD_eq_getD_getElem?, List.getElem?_toArray, List.getElem?_cons_succ, List.getElem?_cons_zero, Option.getD_some, h]
          rfl

end Go.Proofs.YtjajoiahgfafgaaDoor
end


section
namespace Go.Proofs.YtjajoiahgfafgaaDoor
open Go.RowKit Plain

set_option maxHeartbeats 400000 in
theorem four_any (n : Nat) (w : World) (h1 : n < 4294967296) :
    Calls Tryd.prog 30 #[.int .u32 n] w (Ret w (.string ⟨(four n).toArray⟩)) := by
  have hk := fun w xs n cap hn m => run_convert_laid (P := Tryd.prog) w 30 5 9 Tryd.underlying30 Tryd.underlying5 Tryd.underlying9 xs n cap hn m
  have hc := hk w [n / 16777216, n / 65536 % 256, n / 256 % 256, n % 256] 4 4 rfl (0, 0)
  simp only [List.map_cons, List.map_nil] at hc
  clear hk
  go_enter Tryd.func30, Tryd.ntmps30
  go_wp2_with (fail)
  go_ret
  exact ⟨rfl, (Below.refl _ _).alloc (Nat.le_refl _) _⟩


set_option maxHeartbeats 400000 in
theorem recNumber_any (s : List UInt8) (w : World) (h : 4 ≤ s.length) :
    Calls Tryd.prog 45 #[.string ⟨s.toArray⟩] w (Ret w (.int .u32 (num s : Nat))) := by
  obtain ⟨a, b, c, d, r, rfl⟩ := four_cases h
  have h0 : 0 < (a :: b :: c :: d :: r).length := by omega
  have h1 : (1 : Int) < (a :: b :: c :: d :: r).length := by omega
  have h2 : (2 : Int) < (a :: b :: c :: d :: r).length := by omega
  have h3 : (3 : Int) < (a :: b :: c :: d :: r).length := by omega
  have ha : (a.toNat : Int) < 256 := by have := a.toNat_lt; omega
  have hb : (b.toNat : Int) < 256 := by have := b.toNat_lt; omega
  have hc : (c.toNat : Int) < 256 := by have := c.toNat_lt; omega
  have hd : (d.toNat : Int) < 256 := by have := d.toNat_lt; omega
  have E := num_go a.toNat b.toNat c.toNat d.toNat (by omega) (by omega) (by omega) (by omega)
  go_enter Tryd.func45, Tryd.ntmps45
  go_wp2_with (fail)
  refine wp_region_below (by kernel_rfl) (by kernel_rfl) ?_
  repeat (go_big_quiet_step (fail))
  refine wpQuiet_nil ?_
  intro W1 hW1
  go_wp2_with (fail)
  go_ret
  exact ⟨rfl, hW1⟩

theorem num_drop {s : List UInt8} {i : Nat} (h0 : i < s.length) (n1 : i + 1 < s.length) (n2 : i + 2 < s.length) (n3 : i + 3 < s.length) :
    num (s.drop i) = s[i].toNat * 16777216 + s[i + 1].toNat * 65536 + s[i + 2].toNat * 256 + s[i + 3].toNat := by
  rw [List.drop_eq_getElem_cons h0, List.drop_eq_getElem_cons n1, List.drop_eq_getElem_cons n2, List.drop_eq_getElem_cons n3]; rfl

end Go.Proofs.YtjajoiahgfafgaaDoor
end


section
namespace Go.Proofs.YtjajoiahgfafgaaDoor
open Go.RowKit Plain

set_option maxHeartbeats 400000 in
theorem Pack_any (p : List UInt8) (w : World) (hp : p.length ≤ 1048576) :
    Calls Tryd.prog 13 #[.string ⟨p.toArray⟩] w (Ret w (.tuple #[.string ⟨(record p).toArray⟩, .int .i64 0])) := by
  have hl := crc_lt (four p.length ++ p)
  have hf : (four p.length).length = 4 := rfl
  have hf2 : (four (crc (four p.length ++ p))).length = 4 := rfl
  go_enter Tryd.func13, Tryd.ntmps13
  go_wp2_with (fail)
  refine (Ret.quiet (Below.refl _ _) (four_any _ _ (by omega))).mono ?_
  rintro e w1 ⟨rfl, hb1⟩
  go_wp2_with (fail)
  refine (Ret.quiet (hb1) (Crc_any _ _ (by simp; omega))).mono ?_
  rintro e w2 ⟨rfl, hb2⟩
  go_wp2_with (fail)
  refine (Ret.quiet (hb2) (four_any _ _ hl)).mono ?_
  rintro e w3 ⟨rfl, hb3⟩
  go_wp2_with (fail)
  go_ret2
  refine ⟨?_, hb3⟩
  simp [record]
set_option maxHeartbeats 400000 in
theorem Pack_more (p : List UInt8) (w : World) (hs : p.length ≤ 9223372036854775807) (hp : 1048576 < p.length) :
    Calls Tryd.prog 13 #[.string ⟨p.toArray⟩] w (Ret w (.tuple #[.string ⟨#[]⟩, .int .i64 32])) := by
  go_enter Tryd.func13, Tryd.ntmps13
  go_wp2_with (fail)
  go_ret2
  exact ⟨rfl, Below.refl _ _⟩

theorem Pack_all (p : List UInt8) (w : World) (hs : p.length ≤ 9223372036854775807) :
    Calls Tryd.prog 13 #[.string ⟨p.toArray⟩] w (Ret w (.tuple #[.string ⟨(pack p).1.toArray⟩, .int .i64 (pack p).2])) := by
  rcases Nat.lt_or_ge 1048576 p.length with h | h
  · rw [pack_more h]; exact Pack_more p w hs h
  · rw [pack_ok h]; exact Pack_any p w h

set_option maxHeartbeats 400000 in
theorem Next_any (s : List UInt8) (w : World)  (hs : s.length ≤ 9223372036854775807) :
    Calls Tryd.prog 32 #[.string ⟨s.toArray⟩] w (Ret w (.tuple #[.string ⟨(next s).1.toArray⟩, .string ⟨(next s).2.1.toArray⟩, .int .i64 (next s).2.2])) := by
  have hn := num_lt s
  go_enter Tryd.func32, Tryd.ntmps32
  go_wp2_with (fail)
  · go_ret3
    refine ⟨?_, Below.refl _ _⟩
    rw [next_short (by omega)]
    rfl
  refine (Ret.quiet (Below.refl _ _) (recNumber_any _ _ (by omega))).mono ?_
  rintro e w1 ⟨rfl, hb1⟩
  go_wp2_with (fail)
  · go_ret3
    refine ⟨?_, hb1⟩
    rw [next_more (by omega) (by omega)]
    rfl
  · go_ret3
    refine ⟨?_, hb1⟩
    rw [next_cut (by omega) (by omega) (by omega)]
    rfl
  have k1 : IntKind.u32.wrap (8 + (num s : Int)) = 8 + (num s : Int) := by rw [IntKind.wrap_u32]; omega
  have z1 : (0 : Int) ≤ 8 + (num s : Int) := by omega
  have l1 : (List.take 4 s ++ List.take (num s) (List.drop 8 s)).length = 4 + num s := by simp; omega
  have l2 : (4 : Int) ≤ s.length := by omega
  have l3 : 8 + num s - 8 = num s := by omega
  refine wp_region_below (by kernel_rfl) (by kernel_rfl) ?_
  repeat (go_big_quiet_step (fail))
  refine wpQuiet_nil ?_
  intro W2 hW2
  go_wp2_with (fail)
  by_cases h3 : num (s.drop 4) = crc (s.take 4 ++ (s.drop 8).take (num s))
  · have hB : ((num (s.drop 4) : Int) != (crc (s.take 4 ++ (s.drop 8).take (num s)) : Int)) = false := by rw [h3]; simp
    have H3 := Lib.hid h3
    clear h3
    refine wp_region_below (by kernel_rfl) (by kernel_rfl) ?_
    repeat (go_big_quiet_step ((intro hW; first | (go_at_call 45; exact Ret.quiet hW (recNumber_any _ _ (by simp; omega))) | (go_at_call 31; exact Ret.quiet hW (Crc_any _ _ (by simp; omega))))))
    refine wpQuiet_nil ?_
    intro W3 hW3
    go_wp2_with (fail)
    go_ret3
    refine ⟨?_, (hb1.trans (hW2.mono hb1.size)).trans (hW3.mono (Nat.le_trans hb1.size hW2.size))⟩
    rw [next_ok (by omega) (by omega) (by omega) H3.out]
    simp only [Array.getD_eq_getD_getElem?, List.getElem?_toArray, List.getElem?_cons_succ, List.getElem?_cons_zero, Option.getD_some, Nat.add_sub_cancel_left]
    rfl
  · have hB : ((num (s.drop 4) : Int) != (crc (s.take 4 ++ (s.drop 8).take (num s)) : Int)) = true := by simpa using (by omega : (num (s.drop 4) : Int) ≠ (crc (s.take 4 ++ (s.drop 8).take (num s)) : Int))
    have H3 := Lib.hid h3
    clear h3
    refine wp_region_below (by kernel_rfl) (by kernel_rfl) ?_
    repeat (go_big_quiet_step ((intro hW; first | (go_at_call 45; exact Ret.quiet hW (recNumber_any _ _ (by simp; omega))) | (go_at_call 31; exact Ret.quiet hW (Crc_any _ _ (by simp; omega))))))
    refine wpQuiet_nil ?_
    intro W3 hW3
    go_wp2_with (fail)
    go_ret3
    refine ⟨?_, (hb1.trans (hW2.mono hb1.size)).trans (hW3.mono (Nat.le_trans hb1.size hW2.size))⟩
    rw [next_sum (by omega) (by omega) (by omega) H3.out]
    rfl
end Go.Proofs.YtjajoiahgfafgaaDoor
end

/- arch.Encode. -/
section
set_option linter.unusedVariables false
namespace Go.Proofs.YtjajoiahgfafgaaDoor
open Go.RowKit Plain

namespace Plain
theorem numsB_two {x y : Int} (hx : 0 ≤ x) (hy : 0 ≤ y) : numsB [x, y] = numI x ++ numI y := by simp [numsB, numI, hx, hy]
theorem numsB_three {x y z : Int} (hx : 0 ≤ x) (hy : 0 ≤ y) (hz : 0 ≤ z) : numsB [x, y, z] = numI x ++ (numI y ++ numI z) := by simp [numsB, numI, hx, hy, hz]
theorem textsB_one (x : List UInt8) : textsB [x] = textB x := by simp [textsB]
theorem textsB_two (x y : List UInt8) : textsB [x, y] = textB x ++ textB y := by simp [textsB]
def upA (a : Arc) (k : Nat) : List UInt8 := headB a ++ ((a.tree.zip a.stamps).take k).flatMap nodeB
theorem upA_zero (a : Arc) : upA a 0 = headB a := by simp [upA]
theorem upA_all {a : Arc} (h : a.stamps.length = a.tree.length) : upA a a.tree.length = payA a := by
  unfold upA payA
  rw [List.take_of_length_le (by rw [List.length_zip]; omega)]
theorem upA_next {a : Arc} {k : Nat} (h : a.stamps.length = a.tree.length) (hk : k < a.tree.length) :
    upA a (k + 1) = ((upA a k ++ textB (a.tree.getD k default).path) ++ (numI (a.tree.getD k default).kind ++ numI (a.tree.getD k default).mode) ++ textB (a.tree.getD k default).data) ++ (numI (a.stamps.getD k default).ino ++ (numI (a.stamps.getD k default).size ++ numI (a.stamps.getD k default).time)) := by
  unfold upA
  rw [List.take_succ_eq_append_getElem (by rw [List.length_zip]; omega), List.flatMap_append, List.getElem_zip]
  rw [List.getD_eq_getElem?_getD, List.getElem?_eq_getElem hk, Option.getD_some, List.getD_eq_getElem?_getD, List.getElem?_eq_getElem (by omega), Option.getD_some]
  simp [nodeB]
theorem upA_le {a : Arc} (h : a.stamps.length = a.tree.length) (k : Nat) : (upA a k).length ≤ (payA a).length := by
  have h1 : payA a = upA a k ++ ((a.tree.zip a.stamps).drop k).flatMap nodeB := by
    unfold payA upA
    rw [List.append_assoc, ← List.flatMap_append, List.take_append_drop]
  rw [h1, List.length_append]; omega
end Plain
/-- a block that is no row of bytes is kept -/
theorem Wr.block {B b : Nat} {s : List UInt8} {w w' : World} (h : Wr B b s w w') {k : Nat} {cs : Array Value} {t : TypeId} {fz : Nat × Nat} (hk : w.heap[k]? = some (.cells cs t fz)) (hb : k ≠ b) (ht : t ≠ 5) : w'.heap[k]? = some (.cells cs t fz) :=
  h.2.2 k _ hk (by simpa using hb) (fun c z e => ht (by injection e))
theorem reads_kept {W W' : World} {b g : Nat} {vs : List Value} {t : TypeId} (hk : W.heap[g]? = some (.cells vs.toArray t (0, 0))) (hb : g ≠ b) (ht : t ≠ 5) (h : Lib.OthersKept 5 (some b) W W') (n : Nat) (hn : n = vs.length) : Reads W' 1 (some ⟨g, 0, none⟩) n vs := by
  have h1 := h g _ hk (by simpa using hb) (fun c z e => ht (by injection e))
  refine ⟨by omega, fun _ => ⟨_, rfl, fun j u hu => ?_⟩⟩
  have e : (⟨g, 0, none⟩ : Addr).add j = ⟨g, j, none⟩ := by unfold Addr.add; split <;> simp_all
  rw [e, cell_of_row _ _ j _ _ _ h1]
  simpa using hu
/-- texts of a slice that has just been built -/
theorem texts_new (b : Nat) (s : List UInt8) (l : List (List UInt8)) (w0 w : World) (hw : Wr b b s w0 w) (hb0 : b < w0.heap.size) (hl : ∀ t ∈ l, t.length ≤ 1048576) (hn : l.length ≤ 16) (hs : s.length ≤ 1048576) :
    Calls Tryd.prog 11 #[.pointer (some ⟨b, 0, none⟩), .slice (some ⟨w.heap.size, 0, none⟩) l.length l.length] (w.alloc (.cells (strs l).toArray 9)) fun e w' => e = .returned (.tuple #[]) ∧ Wr b b (s ++ textsB l) w0 w' ∧ Lib.OthersKept 5 (some b) w w' := by
  have hlt : b < w.heap.size := Nat.lt_of_lt_of_le hb0 hw.2.1.size
  have hal := (Below.refl w.heap.size w).alloc (Nat.le_refl _) (.cells (strs l).toArray 9)
  have hle := textsB_le l
  have hwt : wt l ≤ 1048577 * l.length := by
    clear hle hn
    induction l with
    | nil => simp [wt]
    | cons x r ih =>
      have h1 := hl x (List.mem_cons_self ..)
      have h2 := ih (fun t ht => hl t (List.mem_cons_of_mem _ ht)) ((Below.refl w.heap.size w).alloc (Nat.le_refl _) _)
      simp only [wt, List.map_cons, List.sum_cons, List.length_cons] at h2 ⊢
      omega
  refine (texts_any b b s l (some ⟨w.heap.size, 0, none⟩) l.length _ (builder_below hw.1 hal) (by simp; omega) (fun W hW => reads_kept (heap_alloc_new _ _) (by omega) (by decide) hW _ (by simp [strs])) (fun t ht => by have := hl t ht; omega) (by omega) (by omega)).mono ?_
  rintro e w' ⟨rfl, h⟩
  exact ⟨rfl, (hw.below (by omega) hal).trans h, (below_others hal).trans h.2.2⟩
theorem nums_new (b : Nat) (s : List UInt8) (l : List Int) (w0 w : World) (hw : Wr b b s w0 w) (hb0 : b < w0.heap.size) (hl : ∀ t ∈ l, 0 ≤ t ∧ t < 9223372036854775808) (hn : l.length ≤ 16) (hs : s.length ≤ 1048576) :
    Calls Tryd.prog 12 #[.pointer (some ⟨b, 0, none⟩), .slice (some ⟨w.heap.size, 0, none⟩) l.length l.length] (w.alloc (.cells (ints l).toArray 3)) fun e w' => e = .returned (.tuple #[]) ∧ Wr b b (s ++ numsB l) w0 w' ∧ Lib.OthersKept 5 (some b) w w' := by
  have hlt : b < w.heap.size := Nat.lt_of_lt_of_le hb0 hw.2.1.size
  have hal := (Below.refl w.heap.size w).alloc (Nat.le_refl _) (.cells (ints l).toArray 3)
  have hle := numsB_le l
  refine (nums_any b b s l (some ⟨w.heap.size, 0, none⟩) l.length _ (builder_below hw.1 hal) (by simp; omega) (fun W hW => reads_kept (heap_alloc_new _ _) (by omega) (by decide) hW _ (by simp [ints])) hl (by omega) (by omega)).mono ?_
  rintro e w' ⟨rfl, h⟩
  exact ⟨rfl, (hw.below (by omega) hal).trans h, (below_others hal).trans h.2.2⟩

set_option maxHeartbeats 2000000 in
set_option maxRecDepth 100000 in
theorem encode_any (a : Arc) (A : Option Addr) (c : Nat) (B : Option Addr) (d : Nat) (m : Int) (w : World) (hL : Laid w m) (hA : ArAt a A c B d w) (hsm : Small a) :
    Calls Tryd.prog 6 #[.agg (arV a A c B d).toArray] w (Ret w (.tuple #[.string ⟨(encodeA a).1.toArray⟩, .int .i64 (encodeA a).2])) := by
  have HCK := Lib.hid (fun W (h : Below w.heap.size w W) => acheck_any a A c B d m W (hL.below h) (hA.below h))
  obtain ⟨w1, hw1⟩ : ∃ w1, w.alloc (.cells (arV a A c B d).toArray 25) = w1 := ⟨_, rfl⟩
  have HW1 := Lib.hid hw1
  have HB1 := Lib.hid (show Below w.heap.size w w1 by rw [← hw1]; exact (Below.refl w.heap.size w).alloc (Nat.le_refl _) _)
  have HS1 := Lib.hid (show w1.heap.size = w.heap.size + 1 by rw [← hw1]; simp)
  have HRA := Lib.hid (show w1.heap[w.heap.size]? = some (.cells (arV a A c B d).toArray 25 (0, 0)) by rw [← hw1]; exact heap_alloc_new _ _)
  clear hw1 hL
  cases hck : checkA a with
  | false =>
    have HEN := Lib.hid (show encodeA a = ([], 90) by unfold encodeA; rw [hck]; rfl)
    rw [HEN.out]
    rw [hck] at HCK
    have H1 : Hid (∀ W, Below w.heap.size w W → Calls Tryd.prog 10 #[.agg (arV a A c B d).toArray] W (Ret W (.int .i64 90))) := HCK
    clear hck HCK hA
    unfold arV at *
    go_enter Tryd.func6, Tryd.ntmps6
    go_upto_region 1 with (fail)
    rw [HW1.out]
    have ta0 := cell_of_row w1 _ 0 _ _ _ HRA.out; have ta1 := cell_of_row w1 _ 1 _ _ _ HRA.out; have ta2 := cell_of_row w1 _ 2 _ _ _ HRA.out; have ta3 := cell_of_row w1 _ 3 _ _ _ HRA.out
    go_wp2_with (fail)
    refine (H1.out _ HB1.out).mono ?_
    rintro e w2 ⟨rfl, hw2⟩
    go_wp2_with (fail)
    go_ret2
    exact ⟨rfl, HB1.out.trans (hw2.mono HB1.out.size)⟩
  | true =>
    have HEN := Lib.hid (show encodeA a = (record (payA a), 0) by unfold encodeA; rw [hck]; rfl)
    rw [HEN.out]
    rw [hck] at HCK
    have H1 : Hid (∀ W, Below w.heap.size w W → Calls Tryd.prog 10 #[.agg (arV a A c B d).toArray] W (Ret W (.int .i64 0))) := HCK
    have HKP := Lib.hid (checkA_parts hck)
    have HFT := Lib.hid (zip_fits hck hsm)
    have HSM := Lib.hid hsm
    have HPL := Lib.hid (payA_length hck)
    have HPK := Lib.hid (fun W => Pack_any (payA a) W (payA_length hck))
    have HAA := Lib.hid (fun W (h : Below w.heap.size w W) => hA.below h)
    have htl := (bare_bounds (checkA_parts hck).2.2.2.1).1
    have HTL := Lib.hid htl
    clear hck HCK hA
    unfold arV at *
    go_enter Tryd.func6, Tryd.ntmps6
    go_upto_region 1 with (fail)
    rw [HW1.out]
    have ta0 := cell_of_row w1 _ 0 _ _ _ HRA.out; have ta1 := cell_of_row w1 _ 1 _ _ _ HRA.out; have ta2 := cell_of_row w1 _ 2 _ _ _ HRA.out; have ta3 := cell_of_row w1 _ 3 _ _ _ HRA.out
    go_wp2_with (fail)
    refine (H1.out _ HB1.out).mono ?_
    rintro e w2 ⟨rfl, hw2⟩
    clear ta0 ta1 ta2 ta3
    obtain ⟨w3, hw3⟩ : ∃ w3, w2.alloc (.cells #[.pointer none, .slice none 0 0] 40) = w3 := ⟨_, rfl⟩
    have HW3 := Lib.hid hw3
    have HB2 := Lib.hid (HB1.out.trans (hw2.mono HB1.out.size))
    have HBB : Hid (∀ W, Below w2.heap.size w3 W → Below w.heap.size w W) := Lib.hid (fun W h => HB2.out.trans (((show Below w2.heap.size w2 w3 by rw [← hw3]; exact (Below.refl _ _).alloc (Nat.le_refl _) _).trans h).mono HB2.out.size))
    have HLT := Lib.hid (show w2.heap.size < w3.heap.size by rw [← hw3]; simp)
    have HBX : Hid (∀ W, Below w2.heap.size w3 W → W.heap[w.heap.size]? = some (.cells #[.string ⟨a.pair.toArray⟩, .int .i64 a.serial, .slice A a.tree.length c, .slice B a.stamps.length d] 25 (0, 0))) :=
      Lib.hid (fun W h => ((show Below w2.heap.size w2 w3 by rw [← hw3]; exact (Below.refl _ _).alloc (Nat.le_refl _) _).trans h).block w.heap.size (by have := HS1.out; have := hw2.size; omega) |>.trans ((hw2.block w.heap.size (by have := HS1.out; omega)).trans HRA.out))
    have HWR : Hid (Wr w2.heap.size w2.heap.size [] w3 w3) := Lib.hid ⟨by rw [← hw3]; exact fresh_writer w2, Below.refl _ _, Lib.OthersKept.refl _ _ _⟩
    clear hw2 hw3
    go_upto_region 4 with (fail)
    rw [HW3.out]
    have ta0 := cell_of_row w3 _ 0 _ _ _ (HBX.out w3 (Below.refl _ _))
    go_wp2_with (fail)
    clear ta0
    refine (show Calls Tryd.prog 11 _ _ _ from texts_new w2.heap.size [] [magicB, a.pair] w3 w3 HWR.out HLT.out (by have := HKP.out.2.1; intro t ht; simp at ht; rcases ht with rfl | rfl; decide; omega) (by simp) (by simp)).mono ?_
    rintro e w4 ⟨rfl, hw4, -⟩
    rw [textsB_two, List.nil_append] at hw4
    have HW4 := Lib.hid hw4
    have tb1 := cell_of_row w4 _ 1 _ _ _ (HBX.out w4 hw4.2.1)
    have tb2 := cell_of_row w4 _ 2 _ _ _ (HBX.out w4 hw4.2.1)
    clear hw4
    go_wp2_with (fail)
    clear tb1 tb2
    refine (show Calls Tryd.prog 12 _ _ _ from nums_new w2.heap.size _ [a.serial, a.tree.length] w3 w4 HW4.out HLT.out (by have := HKP.out.2.2.1; have := HSM.out.1; intro t ht; simp at ht; rcases ht with rfl | rfl <;> omega) (by simp) (by have h1 := textB_length magicB; have h2 := textB_length a.pair; have h3 := HKP.out.2.1; have h0 : magicB.length = 8 := rfl; rw [List.length_append]; omega)).mono ?_
    rintro e w5 ⟨rfl, hw5, -⟩
    rw [numsB_two HKP.out.2.2.1 (by omega)] at hw5
    have HW5 : Hid (Wr w2.heap.size w2.heap.size (upA a 0) w3 w5) := Lib.hid (by rw [upA_zero]; unfold headB; simpa [numI, List.append_assoc] using hw5)
    have tb2 := cell_of_row w5 _ 2 _ _ _ (HBX.out w5 HW5.out.2.1)
    clear hw5 HW4
    go_wp2_with (fail)
    clear tb2
    go_loopw [26] (fun t26 W => ∃ i : Nat, i ≤ a.tree.length ∧ t26 = .int .i64 i ∧ Hid (Wr w2.heap.size w2.heap.size (upA a i) w3 W)) (fun t26 _ => a.tree.length - (intOf t26).toNat)
    case atStart => exact ⟨0, by omega, rfl, HW5⟩
    case round =>
      clear HW5
      obtain ⟨i, hi, rfl, HW⟩ := hrel
      have i0 : (0 : Int) ≤ i := by omega
      have e1 : IntKind.i64.wrap ((i : Int) + 1) = (i : Int) + 1 := IntWalk.i64_in _ (by omega)
      by_cases hlt : i < a.tree.length
      · have i1 : (i : Int) < a.tree.length := by omega
        have i2 : (i : Int) < a.stamps.length := by have := HKP.out.2.2.2.2.1; omega
        have hls : i < a.stamps.length := by omega
        obtain ⟨ad, rfl, c0, c1, c2, c3⟩ := node_cells (HAA.out _ (HBB.out _ HW.out.2.1)).rows hlt
        have HNX := Lib.hid (upA_next HKP.out.2.2.2.2.1 hlt)
        have HUP := Lib.hid (Nat.le_trans (upA_le HKP.out.2.2.2.2.1 (i + 1)) HPL.out)
        have hmem : (a.tree.getD i default, a.stamps.getD i default) ∈ a.tree.zip a.stamps := by
          have h1 : i < (a.tree.zip a.stamps).length := by rw [List.length_zip]; omega
          have h2 := List.getElem_mem h1
          rw [List.getElem_zip] at h2
          rw [List.getD_eq_getElem?_getD, List.getElem?_eq_getElem hlt, Option.getD_some, List.getD_eq_getElem?_getD, List.getElem?_eq_getElem hls, Option.getD_some]
          exact h2
        have HF := Lib.hid (HFT.out _ hmem)
        have HSC := Lib.hid (fun W (h : Below w2.heap.size w3 W) => stp_cells (HAA.out _ (HBB.out _ h)).stps hls)
        clear hmem
        rw [HNX.out] at HUP
        generalize a.tree.getD i default = nd at *
        generalize a.stamps.getD i default = st at *
        obtain ⟨wn, hwn⟩ : ∃ wn, wr.alloc (.cells (ndV nd).toArray 44) = wn := ⟨_, rfl⟩
        have HWN := Lib.hid hwn
        have HB0 := Lib.hid (show w2.heap.size ≤ w3.heap.size from Nat.le_of_lt HLT.out)
        have HNR := Lib.hid (show wn.heap[wr.heap.size]? = some (.cells (ndV nd).toArray 44 (0, 0)) by rw [← hwn]; exact heap_alloc_new _ _)
        have HNB := Lib.hid (show wr.heap.size ≠ w2.heap.size by have := HW.out.2.1.size; have := HLT.out; omega)
        have HW2 : Hid (Wr w2.heap.size w2.heap.size (upA a i) w3 wn) := Lib.hid (HW.out.below HB0.out (by rw [← hwn]; exact (Below.refl _ _).alloc (Nat.le_refl _) _))
        clear hwn
        unfold ndV at HWN HNR
        go_upto_region 9 with (fail)
        rw [HWN.out]
        have n0 := cell_of_row wn _ 0 _ _ _ HNR.out
        go_wp2_with (fail)
        clear n0
        refine (show Calls Tryd.prog 11 _ _ _ from texts_new w2.heap.size (upA a i) [nd.path] w3 wn HW2.out HLT.out (by have := HF.out.1; intro t ht; simp at ht; rw [ht]; exact Nat.le_trans this (by decide)) (by simp) (by have := HUP.out; simp only [List.length_append] at this; omega)).mono ?_
        rintro e wa ⟨rfl, hwa, hka⟩
        rw [textsB_one] at hwa
        have HWA := Lib.hid hwa
        have HNA := Lib.hid (hka _ _ HNR.out (by simpa using HNB.out) (fun c z e => by cases e))
        clear hwa hka
        have n1 := cell_of_row wa _ 1 _ _ _ HNA.out
        have n3 := cell_of_row wa _ 3 _ _ _ HNA.out
        go_wp2_with (fail)
        clear n1 n3
        refine (show Calls Tryd.prog 12 _ _ _ from nums_new w2.heap.size _ [nd.kind, nd.mode] w3 wa HWA.out HLT.out (by have h1 := HF.out.2.2.1; have h2 := HF.out.2.2.2.1; intro t ht; simp at ht; rcases ht with rfl | rfl; exact h1; exact h2) (by simp) (by have := HUP.out; simp only [List.length_append] at this ⊢; omega)).mono ?_
        rintro e wb ⟨rfl, hwb, hkb⟩
        rw [numsB_two HF.out.2.2.1.1 HF.out.2.2.2.1.1] at hwb
        have HWB := Lib.hid hwb
        have HNB2 := Lib.hid (hkb _ _ HNA.out (by simpa using HNB.out) (fun c z e => by cases e))
        clear hwb hkb
        have n2 := cell_of_row wb _ 2 _ _ _ HNB2.out
        go_wp2_with (fail)
        clear n2
        refine (show Calls Tryd.prog 11 _ _ _ from texts_new w2.heap.size _ [nd.data] w3 wb HWB.out HLT.out (by have := HF.out.2.1; intro t ht; simp at ht; rw [ht]; exact Nat.le_trans this (by decide)) (by simp) (by have := HUP.out; simp only [List.length_append] at this ⊢; omega)).mono ?_
        rintro e wc ⟨rfl, hwc, hkc⟩
        rw [textsB_one] at hwc
        have HWC := Lib.hid hwc
        clear hwc hkc
        have x3 := cell_of_row wc _ 3 _ _ _ (HBX.out wc HWC.out.2.1)
        obtain ⟨bd, rfl, s0, s1, s2⟩ := HSC.out wc HWC.out.2.1
        go_wp2_with (fail)
        refine wp_region_quiet_tail 18 (by kernel_rfl) (by kernel_rfl) ?_
        simp only [List.take, List.drop]
        repeat first
          | (go_big_quiet_want; refine quiet_load_cell 23 _ rfl _ rfl _ _ x3 Tryd.underlying23 rfl ?_; simp only [Act.put, List.setIfInBounds_toArray, List.set_cons_succ, List.set_cons_zero]; go_big_quiet_on)
          | (go_big_quiet_want; refine quiet_load_cell 3 _ rfl _ rfl _ _ s0 Tryd.underlying3 rfl ?_; simp only [Act.put, List.setIfInBounds_toArray, List.set_cons_succ, List.set_cons_zero]; go_big_quiet_on)
          | (go_big_quiet_want; refine quiet_load_cell 3 _ rfl _ rfl _ _ s1 Tryd.underlying3 rfl ?_; simp only [Act.put, List.setIfInBounds_toArray, List.set_cons_succ, List.set_cons_zero]; go_big_quiet_on)
          | (go_big_quiet_want; refine quiet_load_cell 3 _ rfl _ rfl _ _ s2 Tryd.underlying3 rfl ?_; simp only [Act.put, List.setIfInBounds_toArray, List.set_cons_succ, List.set_cons_zero]; go_big_quiet_on)
          | go_big_quiet_step (fail)
        refine wpQuiet_nil ?_
        intro W hW
        have HWD := Lib.hid (HWC.out.below HB0.out hW)
        clear hW x3 s0 s1 s2
        go_wp2_with (fail)
        refine (show Calls Tryd.prog 12 _ _ _ from nums_new w2.heap.size _ [st.ino, st.size, st.time] w3 W HWD.out HLT.out (by have h := HF.out.2.2.2.2; intro t ht; simp at ht; rcases ht with rfl | rfl | rfl; exact h.1; exact h.2.1; exact h.2.2) (by simp) (by have := HUP.out; simp only [List.length_append] at this ⊢; omega)).mono ?_
        rintro e we ⟨rfl, hwe, -⟩
        rw [numsB_three HF.out.2.2.2.2.1.1 HF.out.2.2.2.2.2.1.1 HF.out.2.2.2.2.2.2.1] at hwe
        have HWE : Hid (Wr w2.heap.size w2.heap.size (upA a (i + 1)) w3 we) := Lib.hid (by rw [HNX.out]; exact hwe)
        clear hwe
        go_wp2_with (fail)
        go_roundw
        case rel => exact ⟨i + 1, by omega, by go_num, HWE⟩
        case measure => simp [intOf]; omega
      · obtain rfl : i = a.tree.length := by omega
        have i1 : decide ((a.tree.length : Int) < (a.tree.length : Int)) = false := by rw [decide_eq_false_iff_not]; omega
        have HW6 : Hid (Wr w2.heap.size w2.heap.size (payA a) w3 wr) := by have := HW; rwa [upA_all HKP.out.2.2.2.2.1] at this
        go_wp2_with (fail)
        refine (StringW_any _ _ _ _ HW6.out.1 (by intro e; have := congrArg List.length e; unfold payA headB at this; have h1 := numB_pos a.tree.length; simp only [List.length_append, List.length_nil] at this; omega)).mono ?_
        rintro e wf ⟨rfl, hwf⟩
        have HBF := Lib.hid (HBB.out _ (HW6.out.2.1.trans hwf))
        clear hwf
        go_wp2_with (fail)
        refine (HPK.out _).mono ?_
        rintro e wg ⟨rfl, hwg⟩
        go_wp2_with (fail)
        go_ret2
        exact ⟨rfl, HBF.out.trans (hwg.mono HBF.out.size)⟩
end Go.Proofs.YtjajoiahgfafgaaDoor
end

/- Whole rows: a store into a row of the call's own, a load of one. -/
section
namespace Go.Proofs.YtjajoiahgfafgaaDoor
open Go.RowKit

theorem heap_setCells {e : TypeId} {g : Nat} : ∀ (vs : List Value) (o : Nat) (C : Array Value) (w : World), w.heap[g]? = some (.cells C e (0, 0)) → o + vs.length ≤ C.size →
    (w.setCells g o vs).heap[g]? = some (.cells (C.toList.take o ++ vs ++ C.toList.drop (o + vs.length)).toArray e (0, 0)) ∧ w.grownBy (w.setCells g o vs) (some g) ∧ (w.setCells g o vs).heap.size = w.heap.size
  | [], o, C, w, h, _ => ⟨by simpa [World.setCells] using h, gb_refl _ _, rfl⟩
  | v :: vs, o, C, w, h, hl => by
    simp only [List.length_cons] at hl
    have h1 := heap_set h o v
    obtain ⟨h2, h3, h4⟩ := heap_setCells vs (o + 1) (C.setIfInBounds o v) (w.setCell ⟨g, o, none⟩ v) h1 (by simp; omega)
    refine ⟨?_, ?_, ?_⟩
    · show (World.setCells (w.setCell ⟨g, o, none⟩ v) g (o + 1) vs).heap[g]? = _
      rw [h2]
      congr 2
      have e1 : (C.setIfInBounds o v).toList.take (o + 1) = C.toList.take o ++ [v] := by
        rw [Array.toList_setIfInBounds, List.take_set, List.take_succ_eq_append_getElem (by simp; omega)]
        rw [List.set_append_right _ _ (by simp; omega)]
        have hm : min o C.size = o := by omega
        simp [hm]
      have e2 : (C.setIfInBounds o v).toList.drop (o + 1 + vs.length) = C.toList.drop (o + (v :: vs).length) := by
        rw [Array.toList_setIfInBounds, List.drop_set_of_lt (by omega), List.length_cons]; congr 1; omega
      rw [e1, e2]; simp
    · show w.grownBy (World.setCells (w.setCell ⟨g, o, none⟩ v) g (o + 1) vs) (some g)
      have hs := gb_set (gb_refl w (some g)) (p := ⟨g, o, none⟩) (.inl rfl) v
      exact ⟨h3.os.trans hs.os, h3.tape.trans hs.tape, h3.output.trans hs.output, Nat.le_trans hs.size h3.size, fun i hi hne => (h3.block i (Nat.lt_of_lt_of_le hi hs.size) hne).trans (hs.block i hi hne)⟩
    · show (World.setCells (w.setCell ⟨g, o, none⟩ v) g (o + 1) vs).heap.size = _
      rw [h4]; simp [World.setCell]

/-- A whole row is stored. -/
theorem wpList_store_row {P : Program} {ops : Array Oper} {rest : List Oper} {op : Oper} {a : Act} {w : World} {Q : Exit → Act → World → Prop} (hgd : op.guard = none) (ty : TypeId) (x y : Operand) (ho : op.op = .store ty x y)
    (g : Nat) (cells C : Array Value) (e : TypeId) (hx : a.eval x = .pointer (some ⟨g, 0, none⟩)) (hy : a.eval y = .agg cells)
    (hg : w.heap[g]? = some (.cells C e (0, 0))) (hC : C.size = cells.size) (hi : (P.info? ty).map (·.size) = some cells.size) (h1 : cells.all (·.oneCell') = true)
    (h : ∀ w', w.grownBy w' (some g) → w'.heap.size = w.heap.size → w'.heap[g]? = some (.cells cells e (0, 0)) → wpList P ops Q rest (a.put op.dst undef) w') : wpList P ops Q (op :: rest) a w := by
  obtain ⟨h2, h3, h4⟩ := heap_setCells cells.toList 0 C w hg (by simp [hC])
  refine wpList_store_mid hgd ty x y ho g 0 cells hx hy (fun j hj => ?_) hi h1 (h _ h3 h4 ?_)
  · refine ⟨?_, frozen_of_row w g _ C e hg⟩
    rw [cell_of_row w g _ C e _ hg]
    simp [hC, hj]
  · rw [h2, List.take_zero, List.drop_eq_nil_of_le (by simp [hC])]; simp

theorem heap_new' (W : World) (o : Obj) (n : Nat) (h : W.heap.size = n) : (W.alloc o).heap[n]? = some o := by subst h; exact heap_alloc_new W o
theorem heap_old' {W : World} {o x : Obj} {n : Nat} (h : W.heap[n]? = some x) : (W.alloc o).heap[n]? = some x := by
  rw [Below.heap_alloc _ _ _ (Array.getElem?_eq_some_iff.1 h).1]; exact h

end Go.Proofs.YtjajoiahgfafgaaDoor
end
