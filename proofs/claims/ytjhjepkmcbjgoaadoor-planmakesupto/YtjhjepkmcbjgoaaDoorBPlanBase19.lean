/- Texts joined: QuietRest, Two, Plan3, Plan4, AppendSlice. -/
import Derived.Test.YtjhjepkmcbjgoaaDoorBPlanBase18
import Derived.Test.YtjhjepkmcbjgoaaDoorBPlanBase11
import Derived.OwnWalk
import Derived.ArgAppend
import Derived.Deep.AppendLies
import Derived.Deep.Upon
set_option linter.unusedSimpArgs false
set_option linter.unusedVariables false

/- A region that draws its order: a head whose operations each yield one value in every world of a class, and behind it a rest in whatever order. -/
section
namespace Go.Proofs.YtjhjepkmcbjgoaaDoor
open Go.RowKit

/-- Each operation of the rest waits for the head's last one, or for one of the rest ahead of it. -/
def restB (md : Region.Mode) (ops : Array Oper) (n : Nat) : Bool :=
  (List.range ops.size).all fun t => decide (t ≤ n) || (List.range t).any fun j => decide (n ≤ j) && Region.waitsFor md ops t j
def finL (n m : Nat) : Array Bool := (List.replicate n true ++ List.replicate (m - n) false).toArray
def lexTo (md : Region.Mode) (ops : Array Oper) (fin : Array Bool) : Nat → Nat → Array Bool → Bool
  | 0, _, listed => decide (listed = fin)
  | f + 1, k, listed => (Region.ready md ops listed).contains k && Region.free md ops listed k && lexTo md ops fin f (k + 1) (listed.setIfInBounds k true)
/-- n is the head's last operation. -/
def quietRestB (md : Region.Mode) (ops : Array Oper) (n : Nat) : Bool :=
  Region.noSelect ops && decide (n + 1 < ops.size) && Region.sinkB md ops n && restB md ops n && lexTo md ops (finL (n + 1) ops.size) (n + 1) 0 (Array.replicate ops.size false) && (Region.ready md ops (finL (n + 1) ops.size)).all (fun j => decide (n + 1 ≤ j))

section
variable {P : Program} {ops : Array Oper} {md : Region.Mode} {C : World → Prop}
theorem rest_waits {n : Nat} {listed : Array Bool} (hc : restB md ops n = true) (inv : HeadInv md ops (n + 1) listed) (hnl : listed.getD n true = false) :
    ∀ t, n < t → t ∉ Region.ready md ops listed := by
  intro t
  induction t using Nat.strongRecOn with
  | _ t ih =>
    intro ht hr
    obtain ⟨hun, ot, hot, hall⟩ := mem_ready.1 hr
    have htlt : t < ops.size := (Array.getElem?_eq_some_iff.1 hot).1
    have h1 := List.all_eq_true.1 hc t (List.mem_range.2 htlt)
    simp only [Bool.or_eq_true, decide_eq_true_eq] at h1
    rcases h1 with h1 | h1
    · omega
    · obtain ⟨j, hj, hj2⟩ := List.any_eq_true.1 h1
      simp only [Bool.and_eq_true, decide_eq_true_eq] at hj2
      obtain ⟨o', ho', e, he, hb, hon⟩ := Region.waitsFor_spec hj2.2
      have : o' = ot := Option.some.inj (ho'.symm.trans hot)
      subst this
      have h2 := hall e he hb
      have hjt := List.mem_range.1 hj
      rw [hon] at h2
      by_cases hjn : j = n
      · subst hjn
        rw [getD_both hnl] at h2; cases h2
      · rw [getD_both (inv.tail j (by omega) (by omega))] at h2; cases h2
theorem sink_last {n : Nat} {listed : Array Bool} (hs : Region.sinkB md ops n = true) (hn : n < ops.size) (inv : HeadInv md ops (n + 1) listed) : ∀ (d i : Nat), n - i = d → i ≤ n → listed.getD i true = false → listed.getD n true = false := by
  intro d
  induction d using Nat.strongRecOn with
  | _ d ih =>
    intro i hd hi hun
    by_cases hin : i = n
    · subst hin; exact hun
    · have h1 := List.all_eq_true.1 hs i (List.mem_range.2 (by omega))
      obtain ⟨j, hj, hj2⟩ := List.any_eq_true.1 h1
      simp only [Bool.and_eq_true, decide_eq_true_eq] at hj2
      obtain ⟨oj, hoj, e, he, hb, hon⟩ := Region.waitsFor_spec hj2.2
      have hjle := List.mem_range.1 hj
      have hjs : j < listed.size := by rw [inv.size]; omega
      cases hl : listed.getD j false with
      | true =>
        have h2 := inv.closed j oj hoj hl e he hb
        rw [hon, getD_both hun] at h2
        cases h2
      | false => exact ih (n - j) (by omega) j rfl (by omega) (getD_in hjs hl)

theorem wpAnyQR_first {n i : Nat} {oi : Oper} {v : Value} {L : Array Bool → Act → Prop} {G : Array Bool → Prop} (hG : ∀ listed j, G listed → G (listed.setIfInBounds j true)) (hi : ops[i]? = some oi) (hsel : ∀ (j : Nat) (o : Oper) cs b, ops[j]? = some o → o.op ≠ .select cs b)
    (hw : ∀ listed, HeadInv md ops n listed → G listed → ∀ i, i < n → listed.getD i true = false → ∀ t, n ≤ t → t ∉ Region.ready md ops listed) (hin : i < n)
    (hdone : ∀ listed a, L listed a → ∀ j ∈ Region.ready md ops listed, n ≤ j) :
    ∀ (f : Nat) (listed : Array Bool) (a : Act), HeadInv md ops n listed → G listed →
      (∀ j oj, ops[j]? = some oj → j ≠ i → listed.getD j true = false → (∀ e ∈ oj.after, Region.binds md e = true → e.on ≠ i) → oi.apart ops oj = true) →
      i ∈ Region.ready md ops listed → YieldsIn P ops C oi v a →
      wpAnyQL P md ops C n L f (listed.setIfInBounds i true) (a.put oi.dst v) → wpAnyQL P md ops C n L (f + 1) listed a := by
  intro f
  induction f with
  | zero =>
    intro listed a inv g _ hr hy H
    have hun := (mem_ready.1 hr).1
    refine ⟨fun h => (by rw [h] at hr; cases hr), fun j hj => ?_⟩
    have hjn : j < n := by
      rcases Nat.lt_or_ge j n with h | h
      · exact h
      · exact absurd hj (hw listed inv g i hin hun j h)
    refine ⟨hjn, ?_⟩
    by_cases hji : j = i
    · subst hji; exact hy.qOp hi H
    · have := hdone _ _ H j (ready_mono hj hji)
      omega
  | succ f ih =>
    intro listed a inv g hfree hr hy H
    have hun := (mem_ready.1 hr).1
    refine ⟨fun h => (by rw [h] at hr; cases hr), fun j hj => ?_⟩
    have hjn : j < n := by
      rcases Nat.lt_or_ge j n with h | h
      · exact h
      · exact absurd hj (hw listed inv g i hin hun j h)
    refine ⟨hjn, ?_⟩
    by_cases hji : j = i
    · subst hji; exact hy.qOp hi H
    · have h1 := (H.2 j (ready_mono hj hji)).2
      obtain ⟨hjun, oj, hoj, hall⟩ := mem_ready.1 hj
      have hnot : ∀ e ∈ oj.after, Region.binds md e = true → e.on ≠ i := fun e he hb heq => by
        have h1 := hall e he hb
        rw [heq, getD_both hun] at h1
        cases h1
      have h2 := qOp_put hoj (hfree j oj hoj hji hjun hnot) (fun cs b => hsel i oi cs b hi) (fun cs b => hsel j oj cs b hoj) hy h1
      have hfree' : ∀ k ok, ops[k]? = some ok → k ≠ i → (listed.setIfInBounds j true).getD k true = false →
          (∀ e ∈ ok.after, Region.binds md e = true → e.on ≠ i) → oi.apart ops ok = true := fun k ok hk hki hun hno => by
        refine hfree k ok hk hki ?_ hno
        by_cases hjk : j = k
        · subst hjk; exact hjun
        · rw [getD_set_ne true hjk] at hun; exact hun
      refine qOp_mono (fun a' h3 => ih (listed.setIfInBounds j true) a' (inv.set hj hjn) (hG _ _ g) hfree' (ready_mono hr (Ne.symm hji)) h3.1 ?_) h2
      rw [Array.setIfInBounds_comm _ _ hji]
      exact h3.2

theorem wpAnyQR_lex {n : Nat} {fin : Array Bool} {Lq : Act → Prop} {G : Array Bool → Prop} (hG : ∀ listed j, G listed → G (listed.setIfInBounds j true)) (hsel : Region.noSelect ops = true) (hw : ∀ listed, HeadInv md ops n listed → G listed → ∀ i, i < n → listed.getD i true = false → ∀ t, n ≤ t → t ∉ Region.ready md ops listed)
    (hf : ∀ j ∈ Region.ready md ops fin, n ≤ j) :
    ∀ (l : List Oper) (k : Nat) (listed : Array Bool) (a : Act), (∀ j, j < l.length → l[j]? = ops[k + j]?) → k + l.length = n → HeadInv md ops n listed → G listed →
    lexTo md ops fin l.length k listed = true → wpQuiet P ops C Lq l a →
    wpAnyQL P md ops C n (fun listed' a' => listed' = fin ∧ Lq a') l.length listed a
  | [], k, listed, a, _, hk, _, _, hB, h => ⟨by simpa [lexTo] using hB, h⟩
  | o :: l, k, listed, a, hl, hk, inv, g, hB, h => by
    have h0 : ops[k]? = some o := by simpa using (hl 0 (by simp)).symm
    simp only [List.length_cons, lexTo, Bool.and_eq_true] at hB
    obtain ⟨⟨hr, hfr⟩, hB'⟩ := hB
    have hkn : k < n := by simp only [List.length_cons] at hk; omega
    have hr' : k ∈ Region.ready md ops listed := by simpa using hr
    have hst : qOp P ops C k (wpQuiet P ops C Lq l) a := by unfold qOp; simp only [h0]; exact h
    obtain ⟨v, hy, hK⟩ := yieldsIn_of_qOp h0 hst
    exact wpAnyQR_first hG h0 (Region.noSelect_spec hsel) hw hkn (fun listed' a' hL => by rw [hL.1]; exact hf) l.length listed a inv g (Region.free_spec h0 hfr) hr' hy
      (wpAnyQR_lex hG hsel hw hf l (k + 1) _ _ (fun j hj => by have := hl (j + 1) (by simp; omega); simpa [Nat.add_assoc, Nat.add_comm 1 j] using this) (by simp only [List.length_cons] at hk; omega) (inv.set hr' hkn) (hG _ _ g) hB' hK)
end

/-- The head: loads, and calls that keep old memory (its last operation: n); the rest: in whatever order. -/
theorem wp_region_quiet_rest {P : Program} {id : Nat} {Q : Exit → Act → World → Prop} {a : Act} {w : World} {l : List Oper} (n : Nat) (hm : P.follows .mixedOrders = true) (hB : quietRestB .any l.toArray n = true)
    (h : wpQuiet P l.toArray (fun W => Below w.heap.size w W) (fun a' => ∀ W, Below w.heap.size w W → wpAny P .any l.toArray Q (l.length - (n + 1)) (finL (n + 1) l.length) a' W) (l.take (n + 1)) a) : (Code.region id l.toArray true).wp P Q a w := by
  simp only [quietRestB, Bool.and_eq_true, decide_eq_true_eq] at hB
  obtain ⟨⟨⟨⟨⟨hsel, hn⟩, hs⟩, hc⟩, hlex⟩, hall⟩ := hB
  have hn' : n + 1 < l.length := by simpa using hn
  have htl : (l.take (n + 1)).length = n + 1 := by simp; omega
  have inv0 : HeadInv .any l.toArray (n + 1) (Array.replicate l.toArray.size false) :=
    ⟨by simp, fun j oj _ hl => (by rw [getD_replicate_false] at hl; cases hl), fun t _ ht => getD_in (by simpa using ht) (getD_replicate_false _ _)⟩
  have hsz : l.toArray.size = l.length := by simp
  rw [hsz] at hlex hall
  have H := wpAnyQR_lex (md := .any) (G := fun _ => True) (fun _ _ _ => trivial) hsel (fun listed inv _ i hi hun t ht => rest_waits hc inv (sink_last hs (by omega) inv _ i rfl (by omega) hun) t (by omega)) (fun j hj => by have := List.all_eq_true.1 hall j hj; simpa using this) (l.take (n + 1)) 0 _ a (fun j hj => by
    have hj' : j < n + 1 := by rw [htl] at hj; exact hj
    simp [hj']) (by simpa using htl) inv0 trivial (by rw [htl, hsz]; exact hlex) h
  refine wp_region_any hm ?_
  have := wpAny_of_qhead (Q' := Q) (g := l.length - (n + 1)) (fun listed a' W hW hL => by
    rw [hL.1]; exact hL.2 W hW) _ _ _ { w with drawn := w.drawn + 1 } ⟨rfl, rfl, rfl, Nat.le_refl _, fun _ _ => rfl⟩ H
  rw [htl, show n + 1 + (l.length - (n + 1)) = l.toArray.size by rw [hsz]; omega] at this
  exact this

/-- The same, where the first operation (one that asks no world) is taken ahead, and only the rest waits for it. -/
def quietRest1B (md : Region.Mode) (ops : Array Oper) (n : Nat) : Bool :=
  Region.noSelect ops && decide (n + 1 < ops.size) && ((List.range n).all fun i => decide (i = 0) || (List.range (n + 1)).any fun j => decide (i < j) && Region.waitsFor md ops j i) && restB md ops n &&
    lexTo md ops (finL (n + 1) ops.size) n 1 ((Array.replicate ops.size false).setIfInBounds 0 true) && (Region.ready md ops (finL (n + 1) ops.size)).all (fun j => decide (n + 1 ≤ j)) &&
    Region.free md ops (Array.replicate ops.size false) 0 && (Region.ready md ops (Array.replicate ops.size false)).contains 0
theorem sink_last1 {md : Region.Mode} {ops : Array Oper} {n : Nat} {listed : Array Bool} (hs : ((List.range n).all fun i => decide (i = 0) || (List.range (n + 1)).any fun j => decide (i < j) && Region.waitsFor md ops j i) = true) (hn : n < ops.size) (inv : HeadInv md ops (n + 1) listed) :
    ∀ (d i : Nat), n - i = d → 1 ≤ i → i ≤ n → listed.getD i true = false → listed.getD n true = false := by
  intro d
  induction d using Nat.strongRecOn with
  | _ d ih =>
    intro i hd h1i hi hun
    by_cases hin : i = n
    · subst hin; exact hun
    · have h1 := List.all_eq_true.1 hs i (List.mem_range.2 (by omega))
      simp only [Bool.or_eq_true, decide_eq_true_eq] at h1
      rcases h1 with h1 | h1
      · omega
      obtain ⟨j, hj, hj2⟩ := List.any_eq_true.1 h1
      simp only [Bool.and_eq_true, decide_eq_true_eq] at hj2
      obtain ⟨oj, hoj, e, he, hb, hon⟩ := Region.waitsFor_spec hj2.2
      have hjle := List.mem_range.1 hj
      have hjs : j < listed.size := by rw [inv.size]; omega
      cases hl : listed.getD j false with
      | true =>
        have h2 := inv.closed j oj hoj hl e he hb
        rw [hon, getD_both hun] at h2
        cases h2
      | false => exact ih (n - j) (by omega) j rfl (by omega) (by omega) (getD_in hjs hl)
theorem wp_region_move_quiet_rest {P : Program} {id : Nat} {Q : Exit → Act → World → Prop} {a : Act} {w : World} {l : List Oper} {o0 : Oper} {v0 : Value} (d : Nat) (n : Nat) (hm : P.follows .mixedOrders = true) (hB : quietRest1B .any l.toArray n = true)
    (h0 : l.toArray[0]? = some o0) (hd : o0.dst = some d) (hQ : ∀ c a w, Q (.panic c) (a.put o0.dst v0) w → Q (.panic c) a w) (hy : Yields P l.toArray o0 v0 a)
    (h : wpQuiet P l.toArray (fun W => Below w.heap.size w W) (fun a' => ∀ W, Below w.heap.size w W → wpAny P .any l.toArray Q (l.length - (n + 1)) (finL (n + 1) l.length) a' W) ((l.take (n + 1)).drop 1) (a.put (some d) v0)) : (Code.region id l.toArray true).wp P Q a w := by
  rw [← hd] at h
  simp only [quietRest1B, Bool.and_eq_true, decide_eq_true_eq] at hB
  obtain ⟨⟨⟨⟨⟨⟨⟨hsel, hn⟩, hs⟩, hc⟩, hlex⟩, hall⟩, hfree⟩, hready⟩ := hB
  have hn' : n + 1 < l.length := by simpa using hn
  have htl : ((l.take (n + 1)).drop 1).length = n := by simp; omega
  have inv0 : HeadInv .any l.toArray (n + 1) (Array.replicate l.toArray.size false) :=
    ⟨by simp, fun j oj _ hl => (by rw [getD_replicate_false] at hl; cases hl), fun t _ ht => getD_in (by simpa using ht) (getD_replicate_false _ _)⟩
  have hr0 : 0 ∈ Region.ready .any l.toArray (Array.replicate l.toArray.size false) := by simpa using hready
  have inv1 := inv0.set hr0 (by omega)
  have hsz : l.toArray.size = l.length := by simp
  rw [hsz] at hlex hall inv1
  rw [hsz] at hfree hready
  have H := wpAnyQR_lex (md := .any) (G := fun listed => listed.getD 0 true = true) (fun listed j g => by
      by_cases hj : j = 0
      · subst hj
        by_cases hs : 0 < listed.size
        · simp [Array.getD, hs]
        · simp [Array.getD, hs]
      · rw [getD_set_ne true hj]; exact g) hsel (n := n + 1) (fun listed inv g i hi hun t ht => by
    by_cases hi0 : i = 0
    · subst hi0
      rw [g] at hun; cases hun
    · exact rest_waits hc inv (sink_last1 hs (by omega) inv _ i rfl (by omega) (by omega) hun) t (by omega)) (fun j hj => by have := List.all_eq_true.1 hall j hj; simpa using this) ((l.take (n + 1)).drop 1) 1 _ (a.put o0.dst v0) (fun j hj => by
    have hj' : j < n := Nat.lt_of_lt_of_eq hj htl
    rw [List.getElem?_drop, List.getElem?_take_of_lt (by omega)]; simp) (by rw [htl]; omega) inv1 (by simp [Array.getD]) (by rw [htl]; exact hlex) h
  refine wp_region_any hm ?_
  have := wpAny_of_qhead (Q' := Q) (g := l.length - (n + 1)) (fun listed a' W hW hL => by
    rw [hL.1]; exact hL.2 W hW) _ _ _ { w with drawn := w.drawn + 1 } ⟨rfl, rfl, rfl, Nat.le_refl _, fun _ _ => rfl⟩ H
  rw [htl] at this
  have h2 := wpAny_take (Q := Q) h0 hsel hfree hready hQ hy this
  rw [show n + (l.length - (n + 1)) + 1 = l.toArray.size by rw [hsz]; omega] at h2
  rw [hsz] at h2 ⊢
  exact h2
end Go.Proofs.YtjhjepkmcbjgoaaDoor
end

/- Two slices of the call's own that grow side by side: append tells where its result lies. -/
section
namespace Go.Proofs.YtjhjepkmcbjgoaaDoor
open Go.RowKit

theorem own_base {w : World} {base base' : Nat} {e : TypeId} {size n : Nat} {v : Value} {xs : List Value} (h : w.ownsRow base e size v n xs) (hb : base' ≤ base) : w.ownsRow base' e size v n xs :=
  ⟨h.1, h.2.imp id fun ⟨g, cap, cur, hv, hg, hr⟩ => ⟨g, cap, cur, hv, Nat.le_trans hb hg, hr⟩⟩

/-- v' lies where v lay, or in a block that is new. -/
def Lies (w : World) (v v' : Value) : Prop := ∀ k, v'.ownBlock = some k → v.ownBlock = some k ∨ w.heap.size ≤ k
/-- no block holds both -/
def Apart (v u : Value) : Prop := ∀ k, v.ownBlock = some k → u.ownBlock ≠ some k
theorem Apart.symm {v u : Value} (h : Apart v u) : Apart u v := fun k hu hv => h k hv hu
theorem Apart.nil (u : Value) (n c : Nat) : Apart (.slice none n c) u := fun k h => by cases h
theorem Apart.lies {w : World} {v v' u : Value} {base : Nat} {e : TypeId} {size n : Nat} {xs : List Value} (h : Apart v u) (hl : Lies w v v') (hu : w.ownsRow base e size u n xs) : Apart v' u := by
  intro k hk he
  rcases hl k hk with h1 | h1
  · exact h k h1 he
  · have := (hu.lt k he).2; omega
theorem Apart.kept {w w' : World} {v u : Value} {base : Nat} {e : TypeId} {size n : Nat} {xs : List Value} (h : Apart v u) (hu : w.ownsRow base e size u n xs) (hg : w.grownBy w' v.ownBlock) : w'.ownsRow base e size u n xs :=
  hu.kept hg (by
    cases hv : u.ownBlock with
    | none => exact .inl rfl
    | some k => exact .inr (fun e => h k e.symm hv))

theorem wpList_append_two {P : Program} {w : World} {ops : Array Oper} {rest : List Oper} {o : Oper} {a : Act} {Q : Exit → Act → World → Prop} (hgd : o.guard = none) (s x : Operand) (t : TypeId)
    (ho : o.op = .call { callee := .builtin .append, args := #[s, x], argTypes := #[t, t] })
    (base : Nat) (e : TypeId) (i : TypeInfo) (z : Value) (size bytes : Nat) (ht : P.underlying t = some (.slice e)) (hi : P.info? e = some i) (hz : i.zero = some z)
    (hsize : i.size = size) (hby : i.bytes = bytes) (hzs : z.cells.size = size) (hsz : 0 < size)
    (v : Value) (n : Nat) (xs : List Value) (hs : a.eval s = v) (hown : w.ownsRow base e size v n xs)
    (ad : Addr) (m c : Nat) (news : List Value) (hx : a.eval x = .slice (some ad) m c) (hl : news.length = m * size) (hnews : ∀ j u, news[j]? = some u → w.cell? (ad.add j) = some u) (h1 : ∀ u ∈ news, u.oneCell' = true)
    (h63 : n + m ≤ maxLen) (hbytes : (n + m) * bytes ≤ 140737488355328) (hbase : base ≤ w.heap.size)
    (h : ∀ v' w', w'.ownsRow base e size v' (n + m) (xs ++ news) → w.grownBy w' v.ownBlock → Lies w v v' → wpList P ops Q rest (a.put o.dst v') w') : wpList P ops Q (o :: rest) a w := by
  rcases hown.2 with ⟨hv, hn⟩ | ⟨g, cap, cur, hv, hbg, hg, hnc, hcm, hcs, htake⟩
  · subst hv
    subst hn
    have hx0 : xs = [] := List.eq_nil_of_length_eq_zero (by simpa using hown.1)
    subst hx0
    exact wpList_append_own w hgd s x t ho w.heap.size e i z size bytes ht hi hz hsize hby hzs hsz _ _ _ hs (World.ownsRow_nil _ _ _ _) ad m c news hx hl hnews h1 h63 hbytes (Nat.le_refl _)
      fun v' w' h2 h3 _ => h v' w' (own_base h2 hbase) h3 (fun k hk => .inr (h2.lt k hk).1)
  · subst hv
    by_cases hroom : n + m ≤ cap
    · exact wpList_append_fits w hgd s x t ho base e i size ht hi hsize g n cap xs hs hown ad m c news hx hl hnews h1 hroom fun w' h2 h3 => h _ w' h2 h3 (fun k hk => .inl hk)
    · exact wpList_append_grows w hgd s x t ho e i z size bytes ht hi hz hsize hby hzs hsz (some ⟨g, 0, none⟩) n cap xs hs (fun e => by cases e) hown.1 (fun b hb j u hu => by
        injection hb with hb
        subst hb
        exact hown.cells (g := g) rfl j u hu) ad m c news hx hl hnews h1 (by omega) h63 hbytes
        fun v' w' h2 h3 => h v' w' (own_base h2 hbase) ⟨h3.os, h3.tape, h3.output, h3.size, fun k hk _ => h3.block k hk (by simp)⟩ (fun k hk => .inr (h2.lt k hk).1)
end Go.Proofs.YtjhjepkmcbjgoaaDoor
end

/- plan.Make. -/
section
set_option linter.unusedVariables false
namespace Go.Proofs.YtjhjepkmcbjgoaaDoor
open Go.RowKit Plain

theorem info_choice : (Tryd.prog.info? 42).map (fun i => (i.zero, i.size, i.bytes)) = some (some (.agg #[.string ByteArray.empty, .int .i64 0]), 2, 24) := by kernel_rfl
theorem chcV_length (x : Chc) : (chcV x).length = 2 := rfl
theorem chcV_oneCell (x : Chc) : ∀ u ∈ chcV x, u.oneCell' = true := by intro u hu; simp [chcV] at hu; rcases hu with rfl | rfl <;> rfl

namespace Plain
def mkC (items : List Itm) (p : Prf) (ch : List Chc) (j : Nat) : List Chc × Nat × Nat := match firstB (choiceBad items ch) j ch.length with
  | some i => ([], i, 130)
  | none => (outP items p ch, 0, 0)
def mkI (items : List Itm) (p : Prf) (ch : List Chc) (j : Nat) : List Chc × Nat × Nat := match firstB (itemBad items) j items.length with
  | some i => ([], i, 91)
  | none => mkC items p ch 0
theorem mkI_0 (items : List Itm) (p : Prf) (ch : List Chc) : mkI items p ch 0 = makeP items p ch := rfl
theorem mkI_at {items : List Itm} {p : Prf} {ch : List Chc} {i : Nat} (h : i < items.length) : mkI items p ch i = if itemBad items i = true then ([], i, 91) else mkI items p ch (i + 1) := by
  unfold mkI
  rw [firstB_at h]
  by_cases hb : itemBad items i = true
  · rw [if_pos hb, if_pos hb]
  · rw [if_neg hb, if_neg hb]
theorem mkI_end (items : List Itm) (p : Prf) (ch : List Chc) : mkI items p ch items.length = mkC items p ch 0 := by unfold mkI; rw [firstB_end]
theorem mkC_at {items : List Itm} {p : Prf} {ch : List Chc} {i : Nat} (h : i < ch.length) : mkC items p ch i = if choiceBad items ch i = true then ([], i, 130) else mkC items p ch (i + 1) := by
  unfold mkC
  rw [firstB_at h]
  by_cases hb : choiceBad items ch i = true
  · rw [if_pos hb, if_pos hb]
  · rw [if_neg hb, if_neg hb]
theorem mkC_end (items : List Itm) (p : Prf) (ch : List Chc) : mkC items p ch ch.length = (outP items p ch, 0, 0) := by unfold mkC; rw [firstB_end]
end Plain
theorem below_le {b : Nat} {w w' : World} (h : Below w.heap.size w w') (hb : b ≤ w.heap.size) : Below b w w' := h.mono hb

theorem laid_chc (w : World) (t : TypeId) (L : List Value) : ∀ j v, L[j]? = some v → (w.alloc (.cells L.toArray t)).cell? ((⟨w.heap.size, 0, none⟩ : Addr).add j) = some v := by
  intro j v h
  rw [add_zero', cell_of_row _ _ j _ _ _ (heap_alloc_new w _)]
  simpa using h

/-- What a call of Make tells. -/
def MakePost (w : World) (r : List Chc × Nat × Nat) (e : Ending) (w' : World) : Prop :=
  ∃ v, e = .returned (.tuple #[v, .int .i64 (r.2.1 : Nat), .int .i64 (r.2.2 : Nat)]) ∧ w'.ownsRow w.heap.size 42 2 v r.1.length (rowsE chcV r.1) ∧ Below w.heap.size w w'

set_option maxRecDepth 100000 in
set_option maxHeartbeats 8000000 in
theorem Make_any (items : List Itm) (A : Option Addr) (ca : Nat) (A0 : Option Addr) (n0 c0 : Nat) (A1 : Option Addr) (n1 c1 : Nat) (A2 : Option Addr) (c2 : Nat) (p : Prf) (fast : Bool) (ch : List Chc) (B : Option Addr) (cb : Nat) (m : Int) (w : World) (hL : Laid w m) (hR : IsRows w 2 A2 (p.merge.map prgV)) (hlen : p.merge.length ≤ 4294967296)
    (hI : IsRows w 2 A (items.map itmV)) (hC : IsRows w 2 B (ch.map chcV)) (hil : items.length ≤ 4294967296) (hcl : ch.length ≤ 4294967296) (his : ∀ x ∈ items, x.path.length ≤ 9223372036854775807) (hcs : ∀ x ∈ ch, x.path.length ≤ 9223372036854775807) :
    Calls Tryd.prog 9 #[.slice A items.length ca, profV A0 n0 c0 A1 n1 c1 A2 c2 p fast, .slice B ch.length cb] w (MakePost w (makeP items p ch)) := by
  obtain ⟨i0, hi, hz0, hz1, hz2⟩ := info_parts info_choice
  have HI0 := Lib.hid hi
  have HDO := Lib.hid (fun x d is W (h : Below w.heap.size w W) => does_any x A0 n0 c0 A1 n1 c1 A2 c2 p fast d is m W (hL.below h) (hR.below h) hlen)
  have HRI := Lib.hid (fun W (h : Below w.heap.size w W) => hI.below h)
  have HRC := Lib.hid (fun W (h : Below w.heap.size w W) => hC.below h)
  have HIS := Lib.hid his
  have HCS := Lib.hid hcs
  have HSZ := Lib.hid (show (Tryd.prog.info? 26).map (·.size) = some 7 by kernel_rfl)
  have HSI := Lib.hid (show (Tryd.prog.info? 38).map (·.size) = some 2 by kernel_rfl)
  obtain ⟨P, hP⟩ : ∃ P, profV A0 n0 c0 A1 n1 c1 A2 c2 p fast = P := ⟨_, rfl⟩
  have HPD := Lib.hid hP
  have HPE := Lib.hid (show P = .agg #[.slice A0 n0 c0, .slice A1 n1 c1, .slice A2 p.merge.length c2, .int .i64 p.prefer, .int .i64 p.force, .bool p.batch, .bool fast] from hP.symm)
  rw [hP] at HDO ⊢
  obtain ⟨w1, hw1⟩ : ∃ w1, w.alloc (.cells #[.slice A0 n0 c0, .slice A1 n1 c1, .slice A2 p.merge.length c2, .int .i64 p.prefer, .int .i64 p.force, .bool p.batch, .bool fast] 26) = w1 := ⟨_, rfl⟩
  have HW1 := Lib.hid hw1
  have HB1 := Lib.hid (show Below w.heap.size w w1 by rw [← hw1]; exact (Below.refl _ _).alloc (Nat.le_refl _) _)
  have HP1 := Lib.hid (show w1.heap[w.heap.size]? = some (.cells #[.slice A0 n0 c0, .slice A1 n1 c1, .slice A2 p.merge.length c2, .int .i64 p.prefer, .int .i64 p.force, .bool p.batch, .bool fast] 26 (0, 0)) by rw [← hw1]; exact heap_alloc_new _ _)
  have HLT1 := Lib.hid (show w.heap.size < w1.heap.size by rw [← hw1]; simp)
  clear hi hL hR hI hC his hcs hP hw1
  rw [HPE.out, ← mkI_0]
  have HRES := Lib.hid (rfl : mkI items p ch 0 = mkI items p ch 0)
  obtain ⟨res, hres⟩ : ∃ r, mkI items p ch 0 = r := ⟨_, rfl⟩
  rw [hres] at HRES ⊢
  replace HRES := Lib.hid hres
  have hmm : ∀ W : World, (Instr.makeMap 45 none).run Tryd.prog W = .ok (.map (some W.heap.size)) (W.alloc (.map #[] 0)) := fun _ => rfl
  have HS1 := Lib.hid (show w1.heap.size = w.heap.size + 1 by rw [← HW1.out]; simp)
  clear hres
  go_enter Tryd.func9, Tryd.ntmps9
  go_wp2_with (fail)
  rw [HW1.out]
  have hM0 : StrM (w1.alloc (.map #[] 0)) (w.heap.size + 1) 0 (lookI (items.take 0)) := by rw [← HS1.out]; exact StrM.made w1
  have HM0 := Lib.hid hM0
  clear hM0
  go_loopw [29] (fun t29 W => ∃ (i : Nat), i ≤ items.length ∧ t29 = .int .i64 i ∧ Hid (mkI items p ch i = res) ∧ Hid (Below w1.heap.size w1 W) ∧ Hid (StrM W (w.heap.size + 1) i (lookI (items.take i)))) (fun t29 _ => items.length - (intOf t29).toNat)
  case atStart => exact ⟨0, by omega, rfl, HRES, Lib.hid ((Below.refl _ _).alloc (Nat.le_refl _) _), HM0⟩
  case round =>
    clear HM0 HRES
    obtain ⟨i, hi, rfl, HE, HB, HM⟩ := hrel
    have i0' : (0 : Int) ≤ i := by omega
    have e1 : IntKind.i64.wrap ((i : Int) + 1) = (i : Int) + 1 := IntWalk.i64_in _ (by omega)
    by_cases hlt : i < items.length
    · have i1 : (i : Int) < items.length := by omega
      obtain ⟨ad, rfl, q0, q1⟩ := itm_at (HRI.out _ (HB1.out.trans (HB.out.mono HB1.out.size))) hlt
      have hpl := HIS.out _ (List.getElem_mem hlt)
      have hB2 := HB.out.alloc HB.out.size (Obj.cells #[Value.string ⟨items[i].path.toArray⟩, Value.int .i64 items[i].what] 38)
      have hM2 := HM.out.below ((Below.refl _ _).alloc (Nat.le_refl _) (Obj.cells #[Value.string ⟨items[i].path.toArray⟩, Value.int .i64 items[i].what] 38))
      have hlk := hM2.look items[i].path hpl
      have hat := mkI_at (p := p) (ch := ch) hlt
      rw [HE.out, itemBad_at hlt] at hat
      have hst := fun hn => hM2.store (v := items[i].what) (look' := lookI (items.take (i + 1))) hpl (lookI_take hlt hn)
      have HB2 := Lib.hid hB2
      have HST := Lib.hid hst
      clear hB2 hst hM2 hpl
      generalize items[i].path = path at *
      generalize items[i].what = what at *
      cases hlo : lookI (items.take i) path with
      | some d =>
        rw [hlo] at hlk hat
        have HE2 := Lib.hid (show res = ([], i, 91) by simpa using hat)
        clear hat
        simp only [Option.getD_some, Option.isSome_some] at hlk
        go_wp2_with (fail)
        go_ret3
        exact ⟨_, by rw [HE2.out]; rfl, by rw [HE2.out]; exact World.ownsRow_nil _ _ _ _, HB1.out.trans (HB2.out.mono HB1.out.size)⟩
      | none =>
        rw [hlo] at hlk hat
        simp only [Option.getD_none, Option.isSome_none] at hlk
        cases hw1 : decide (what < 1) with
        | true =>
          have HE2 := Lib.hid (show res = ([], i, 91) by rw [hw1] at hat; simpa using hat)
          clear hat
          go_wp2_with (fail)
          go_ret3
          exact ⟨_, by rw [HE2.out]; rfl, by rw [HE2.out]; exact World.ownsRow_nil _ _ _ _, HB1.out.trans (HB2.out.mono HB1.out.size)⟩
        | false =>
          cases hw4 : decide (4 < what) with
          | true =>
            have HE2 := Lib.hid (show res = ([], i, 91) by rw [hw4] at hat; simpa using hat)
            clear hat
            go_wp2_with (fail)
            go_ret3
            exact ⟨_, by rw [HE2.out]; rfl, by rw [HE2.out]; exact World.ownsRow_nil _ _ _ _, HB1.out.trans (HB2.out.mono HB1.out.size)⟩
          | false =>
            have HE2 := Lib.hid (show mkI items p ch (i + 1) = res by rw [hw1, hw4] at hat; simpa using hat.symm)
            obtain ⟨W', hW', hM', hB'⟩ := HST.out hlo
            have HM3 := Lib.hid hM'
            have HB3 := Lib.hid (HB2.out.trans (hB' _ (by rw [HS1.out]; omega)))
            clear hat hM' hB'
            go_wp2_with (fail)
            go_roundw
            case rel => exact ⟨i + 1, by omega, by go_num, HE2, HB3, HM3⟩
            case measure => simp [intOf]; omega
    · obtain rfl : i = items.length := by omega
      have HEC := Lib.hid (show mkC items p ch 0 = res by rw [← mkI_end]; exact HE.out)
      have HM1 := Lib.hid (show StrM wr (w.heap.size + 1) items.length (lookI items) by have := HM.out; rwa [List.take_of_length_le (Nat.le_refl _)] at this)
      clear HM HE
      go_wp2_with (fail)
      generalize wr = w2 at *
      have HM2 := Lib.hid (show StrM (w2.alloc (.map #[] 0)) w2.heap.size 0 (lookC (ch.take 0)) from StrM.made w2)
      go_loopw [62] (fun t62 W => ∃ (j : Nat), j ≤ ch.length ∧ t62 = .int .i64 j ∧ Hid (mkC items p ch j = res) ∧ Hid (Below w2.heap.size w2 W) ∧ Hid (StrM W w2.heap.size j (lookC (ch.take j)))) (fun t62 _ => ch.length - (intOf t62).toNat)
      case atStart => exact ⟨0, by omega, rfl, HEC, Lib.hid ((Below.refl _ _).alloc (Nat.le_refl _) _), HM2⟩
      case round =>
        clear HM2 HEC
        obtain ⟨j, hj, rfl, HE, HBB, HM⟩ := hrel
        have HB3 := Lib.hid (HB.out.trans (HBB.out.mono HB.out.size))
        have j0' : (0 : Int) ≤ j := by omega
        have e1 : IntKind.i64.wrap ((j : Int) + 1) = (j : Int) + 1 := IntWalk.i64_in _ (by omega)
        by_cases hlt : j < ch.length
        · have j1 : (j : Int) < ch.length := by omega
          obtain ⟨ad, rfl, q0, q1⟩ := chc_at (HRC.out _ (HB1.out.trans (HB3.out.mono HB1.out.size))) hlt
          have hpl := HCS.out _ (List.getElem_mem hlt)
          have hal := (Below.refl wr.heap.size wr).alloc (Nat.le_refl _) (Obj.cells #[Value.string ⟨ch[j].path.toArray⟩, Value.int .i64 ch[j].act] 42)
          have hB2 := HBB.out.trans (hal.mono HBB.out.size)
          have hlk1 := (HM1.out.below hB2).look ch[j].path hpl
          have hM2 := HM.out.below hal
          have hlk2 := hM2.look ch[j].path hpl
          have hat := mkC_at (items := items) (p := p) hlt
          rw [HE.out, choiceBad_at hlt] at hat
          have hst := fun hn => hM2.store (v := ch[j].act) (look' := lookC (ch.take (j + 1))) hpl (lookC_take hlt hn)
          have HB4 := Lib.hid (HB.out.trans (hB2.mono HB.out.size))
          have HB2 := Lib.hid hB2
          have HST := Lib.hid hst
          clear hB2 hst hM2 hpl hal
          generalize ch[j].path = path at *
          generalize ch[j].act = act at *
          cases hlo : lookC (ch.take j) path with
          | some d =>
            rw [hlo] at hlk2 hat
            have HE2 := Lib.hid (show res = ([], j, 130) by simpa using hat)
            clear hat
            simp only [Option.getD_some, Option.isSome_some] at hlk2
            go_wp2_with (fail)
            go_ret3
            exact ⟨_, by rw [HE2.out]; rfl, by rw [HE2.out]; exact World.ownsRow_nil _ _ _ _, HB1.out.trans (HB4.out.mono HB1.out.size)⟩
          | none =>
            rw [hlo] at hlk2 hat
            simp only [Option.getD_none, Option.isSome_none] at hlk2
            cases hli : lookI items path with
            | none =>
              rw [hli] at hlk1 hat
              simp only [Option.getD_none, Option.isSome_none] at hlk1
              have HE2 := Lib.hid (show res = ([], j, 130) by simpa using hat)
              clear hat
              go_wp2_with (fail)
              go_ret3
              exact ⟨_, by rw [HE2.out]; rfl, by rw [HE2.out]; exact World.ownsRow_nil _ _ _ _, HB1.out.trans (HB4.out.mono HB1.out.size)⟩
            | some wv =>
              rw [hli] at hlk1 hat
              simp only [Option.getD_some, Option.isSome_some] at hlk1
              simp only [Option.isSome_none, Bool.false_or] at hat
              obtain ⟨bad, hbad⟩ : ∃ b, (wv == 1 || decide (act < 0) || decide (4 < act) || (act == 4 && wv == 4)) = b := ⟨_, rfl⟩
              rw [hbad] at hat
              cases bad with
              | true =>
                have HE2 := Lib.hid (show res = ([], j, 130) by simpa using hat)
                clear hat
                cases b1 : (wv == 1) with
                | true =>
                  go_wp2_with (fail)
                  go_ret3
                  exact ⟨_, by rw [HE2.out]; rfl, by rw [HE2.out]; exact World.ownsRow_nil _ _ _ _, HB1.out.trans (HB4.out.mono HB1.out.size)⟩
                | false =>
                cases b2 : decide (act < 0) with
                | true =>
                  go_wp2_with (fail)
                  go_ret3
                  exact ⟨_, by rw [HE2.out]; rfl, by rw [HE2.out]; exact World.ownsRow_nil _ _ _ _, HB1.out.trans (HB4.out.mono HB1.out.size)⟩
                | false =>
                cases b3 : decide (4 < act) with
                | true =>
                  go_wp2_with (fail)
                  go_ret3
                  exact ⟨_, by rw [HE2.out]; rfl, by rw [HE2.out]; exact World.ownsRow_nil _ _ _ _, HB1.out.trans (HB4.out.mono HB1.out.size)⟩
                | false =>
                  rw [b1, b2, b3] at hbad
                  simp only [Bool.false_or, Bool.and_eq_true] at hbad
                  obtain ⟨b4, b5⟩ := hbad
                  go_wp2_with (fail)
                  go_ret3
                  exact ⟨_, by rw [HE2.out]; rfl, by rw [HE2.out]; exact World.ownsRow_nil _ _ _ _, HB1.out.trans (HB4.out.mono HB1.out.size)⟩
              | false =>
                have HE2 := Lib.hid (show mkC items p ch (j + 1) = res by simpa using hat.symm)
                simp only [Bool.or_eq_false_iff] at hbad
                obtain ⟨⟨⟨b1, b2⟩, b3⟩, b4⟩ := hbad
                obtain ⟨W', hW', hM', hB'⟩ := HST.out hlo
                have HM3 := Lib.hid hM'
                have HB5 := Lib.hid (HB2.out.trans (hB' _ (Nat.le_refl _)))
                clear hat hM' hB'
                cases b5 : (act == 4) with
                | true =>
                  have b6 : (wv == 4) = false := by rw [b5] at b4; simpa using b4
                  go_wp2_with (fail)
                  go_roundw
                  case rel => exact ⟨j + 1, by omega, by go_num, HE2, HB5, HM3⟩
                  case measure => simp [intOf]; omega
                | false =>
                  go_wp2_with (fail)
                  go_roundw
                  case rel => exact ⟨j + 1, by omega, by go_num, HE2, HB5, HM3⟩
                  case measure => simp [intOf]; omega
        · obtain rfl : j = ch.length := by omega
          have HEO := Lib.hid (show res = (outP items p ch, 0, 0) by rw [← mkC_end]; exact HE.out.symm)
          have HM2 := Lib.hid (show StrM wr w2.heap.size ch.length (lookC ch) by have := HM.out; rwa [List.take_of_length_le (Nat.le_refl _)] at this)
          clear HM HE
          go_wp2_with (fail)
          generalize wr = w3 at *
          go_loopw [21, 118] (fun t21 t118 W => ∃ (k : Nat), k ≤ items.length ∧ t118 = .int .i64 k ∧ Hid (W.ownsRow w3.heap.size 42 2 t21 (outP (items.take k) p ch).length (rowsE chcV (outP (items.take k) p ch))) ∧ Hid (Below w3.heap.size w3 W)) (fun _ t118 _ => items.length - (intOf t118).toNat)
          case atStart => exact ⟨0, by omega, rfl, Lib.hid (World.ownsRow_nil _ _ _ _), Lib.hid (Below.refl _ _)⟩
          case round =>
            obtain ⟨k, hk, rfl, HO, HBC⟩ := hrel
            have HB5 := Lib.hid (HB3.out.trans (HBC.out.mono HB3.out.size))
            have HB6 := Lib.hid (HB1.out.trans (HB5.out.mono HB1.out.size))
            have k0' : (0 : Int) ≤ k := by omega
            have e1 : IntKind.i64.wrap ((k : Int) + 1) = (k : Int) + 1 := IntWalk.i64_in _ (by omega)
            by_cases hlt : k < items.length
            · have k1 : (k : Int) < items.length := by omega
              obtain ⟨ad, rfl, q0, q1⟩ := itm_at (HRI.out _ HB6.out) hlt
              have hpl := HIS.out _ (List.getElem_mem hlt)
              have hal := (Below.refl wr.heap.size wr).alloc (Nat.le_refl _) (Obj.cells #[Value.string ⟨items[k].path.toArray⟩, Value.int .i64 items[k].what] 38)
              have hlk := (HM2.out.below (HBC.out.trans (hal.mono HBC.out.size))).look items[k].path hpl
              have htk := outP_take hlt p ch
              have hdo := HDO.out items[k] ((lookC ch items[k].path).getD 0) (lookC ch items[k].path).isSome
              have hopt : (if (lookC ch items[k].path).isSome = true then some ((lookC ch items[k].path).getD 0) else none) = lookC ch items[k].path := by cases lookC ch items[k].path <;> rfl
              rw [hopt] at hdo
              clear hopt
              have hol := outP_length (items.take k) p ch
              rw [List.length_take] at hol
              generalize items[k].path = path at *
              generalize items[k].what = what at *
              generalize outP (items.take k) p ch = out at *
              by_cases hw1 : what = 1
              · rw [if_pos hw1] at htk
                have b1 : (what != 1) = false := by rw [hw1]; rfl
                have HT := Lib.hid htk
                have HBA := Lib.hid (HBC.out.trans (hal.mono HBC.out.size))
                have HOA := Lib.hid (own_below HO.out hal)
                clear htk hdo hlk hal hw1 hol HO
                go_wp2_with (fail)
                go_roundw
                case rel => exact ⟨k + 1, by omega, by go_num, by rw [HT.out]; exact HOA, HBA⟩
                case measure => simp [intOf]; omega
              · rw [if_neg hw1] at htk
                have b1 : (what != 1) = true := bne_iff_ne.2 hw1
                have HT := Lib.hid htk
                have HD := Lib.hid hdo
                have HAL := Lib.hid hal
                generalize (lookC ch path).getD 0 = cd at *
                generalize (lookC ch path).isSome = cis at *
                generalize actP what (progP p.merge path) p (lookC ch path) = act at *
                have hO2 := own_below HO.out hal
                have HO2 := Lib.hid hO2
                obtain ⟨w4, hw4⟩ : ∃ w4, wr.alloc (Obj.cells #[Value.string ⟨path.toArray⟩, Value.int .i64 what] 38) = w4 := ⟨_, rfl⟩
                have HW4 := Lib.hid hw4
                have HB4 := Lib.hid (show Below w.heap.size w w4 by rw [← hw4]; exact HB6.out.trans (hal.mono HB6.out.size))
                have HBD := Lib.hid (show Below w3.heap.size w3 w4 by rw [← hw4]; exact HBC.out.trans (hal.mono HBC.out.size))
                have HIT := Lib.hid (show w4.heap[wr.heap.size]? = some (.cells #[Value.string ⟨path.toArray⟩, Value.int .i64 what] 38 (0, 0)) by rw [← hw4]; exact heap_alloc_new _ _)
                have HIP := Lib.hid (show w4.cell? ⟨wr.heap.size, 0, none⟩ = some (.string ⟨path.toArray⟩) by rw [← hw4]; simp [go_sem])
                have HPF := Lib.hid (show w4.heap[w.heap.size]? = some (.cells #[.slice A0 n0 c0, .slice A1 n1 c1, .slice A2 p.merge.length c2, .int .i64 p.prefer, .int .i64 p.force, .bool p.batch, .bool fast] 26 (0, 0)) by
                  have := ((HB5.out.trans (hal.mono HB5.out.size)).block _ HLT1.out).trans HP1.out
                  rw [← hw4]; exact this)
                clear htk hdo hal hw1 HO hO2 hw4
                go_wp2_with (fail)
                rw [HW4.out]
                refine wp_region_move_quiet_rest (v0 := u21) 132 8 (by kernel_rfl) (by kernel_rfl) rfl rfl (fun _ _ _ h => h) (Or.inl ⟨by rfl, ?_⟩) ?_
                · intro w0
                  go_simp
                simp only [List.take, List.drop, Act.put, List.setIfInBounds_toArray, List.set_cons_succ, List.set_cons_zero]
                repeat first
                  | (go_big_quiet_want; refine quiet_load_row 26 _ rfl _ rfl _ _ _ _ HPF.out Tryd.underlying26 rfl HSZ.out ?_; simp only [Act.put, List.setIfInBounds_toArray, List.set_cons_succ, List.set_cons_zero]; go_big_quiet_on)
                  | (go_big_quiet_want; refine quiet_load_row 38 _ rfl _ rfl _ _ _ _ HIT.out Tryd.underlying38 rfl HSI.out ?_; simp only [Act.put, List.setIfInBounds_toArray, List.set_cons_succ, List.set_cons_zero]; go_big_quiet_on)
                  | (go_big_quiet_want; refine quiet_load_cell 9 _ rfl _ rfl _ _ HIP.out Tryd.underlying9 rfl ?_; simp only [Act.put, List.setIfInBounds_toArray, List.set_cons_succ, List.set_cons_zero]; go_big_quiet_on)
                  | go_big_quiet_step ((intro hW; go_at_call 14; rw [← HPE.out]; exact Ret.quiet hW (HD.out _ (HB4.out.trans (hW.mono HB4.out.size)))))
                refine wpQuiet_nil ?_
                intro W2 hW2
                have HB7 := Lib.hid (HBD.out.trans (hW2.mono HBD.out.size))
                have HO7 := Lib.hid (own_below (HW4.out ▸ HO2.out) hW2)
                clear hW2 HO2 HBC
                show wpAny _ _ _ _ (2 + 1) _ _ _
                refine wpAny_ready (rs := [9]) (by kernel_rfl) (by simp) ?_
                refine AllReady.cons rfl (fun K hK => ?_) AllReady.nil
                go_simp
                refine hK _ _ ?_
                clear hK K
                refine wpAny_ready (rs := [10]) (by kernel_rfl) (by simp) ?_
                refine AllReady.cons rfl (fun K hK => ?_) AllReady.nil
                simp only [List.getElem_toArray, List.getElem_cons_succ, List.getElem_cons_zero]
                rw [if_pos (by rfl)]
                refine wp_append_lies _ _ _ 27 rfl w3.heap.size 42 i0 _ 2 24 Tryd.underlying27 HI0.out hz0 hz1 hz2 rfl (by decide) _ _ _ rfl (HO7.out.alloc _) ⟨W2.heap.size, 0, none⟩ 1 1 (chcV ⟨path, act⟩) rfl rfl (laid_chc _ _ _) (chcV_oneCell _) (by decide) ?c3 ?c4 ?c5 _ rfl ?_
                case c3 => unfold maxLen; omega
                case c4 => omega
                case c5 => have := HB7.out.size; simp; omega
                intro g5 cap5 w5 hown5 hg5 hl5 hlt5
                have hb5 : Below w3.heap.size w3 w5 := (HB7.out.alloc HB7.out.size _).grown hg5 (by have := HB7.out.size; simp; omega) (fun k hk => (HO7.out.lt k hk).1)
                have hown6 : w5.ownsRow w3.heap.size 42 2 (.slice (some ⟨g5, 0, none⟩) (out.length + 1) cap5) (outP (items.take (k + 1)) p ch).length (rowsE chcV (outP (items.take (k + 1)) p ch)) := by
                  rw [HT.out, rowsE_append, rowsE_one, List.length_append, List.length_singleton]; exact hown5
                have HO5 := Lib.hid hown6
                have HB8 := Lib.hid hb5
                clear hown5 hown6 hg5 hl5 hb5 HO7 HB7
                refine hK _ _ ?_
                clear hK K
                refine wpAny_ready (rs := [11]) (by kernel_rfl) (by simp) ?_
                refine AllReady.cons rfl (fun K hK => ?_) AllReady.nil
                go_simp
                refine hK _ _ ?_
                clear hK K
                refine wpAny_done (by kernel_rfl) ?_ _
                go_wp2_with (fail)
                go_roundw
                case rel => exact ⟨k + 1, by omega, by go_num, HO5, HB8⟩
                case measure => simp [intOf]; omega
            · obtain rfl : k = items.length := by omega
              have HF := Lib.hid (show wr.ownsRow w.heap.size 42 2 u21 (outP items p ch).length (rowsE chcV (outP items p ch)) by
                have := HO.out
                rw [List.take_of_length_le (Nat.le_refl _)] at this
                exact own_base this (HB1.out.trans (HB3.out.mono HB1.out.size)).size)
              clear HO
              go_wp2_with (fail)
              go_ret3
              exact ⟨_, by rw [HEO.out]; rfl, by rw [HEO.out]; exact HF.out, HB6.out⟩
end Go.Proofs.YtjhjepkmcbjgoaaDoor
end

/- plan: what the laws ask first; what Make's answer is, as the laws read it. -/
section
set_option linter.unusedVariables false
namespace Go.Proofs.YtjhjepkmcbjgoaaDoor
open Go.RowKit Plain

/-- an own row of rows, as it is read -/
theorem own_rows {α : Type} {enc : α → List Value} {n : Nat} (hm : ∀ x, (enc x).length = n) {w : World} {base : Nat} {e : TypeId} {A : Option Addr} {c k : Nat} {l : List α} (h : w.ownsRow base e n (.slice A k c) k (rowsE enc l)) (hk : k = l.length) : IsRows w n A (l.map enc) := by
  subst hk
  intro j hj
  have hj' : j < l.length := by simpa using hj
  obtain ⟨g, c', e, -⟩ := rowsE_some h (by omega)
  injection e with e1 e2 e3
  subst e1 e3
  refine ⟨_, rfl, fun i u hu => ?_⟩
  have e1 : (l.map enc)[j] = enc l[j] := by simp
  rw [e1] at hu
  have hi : i < n := by have := (List.getElem?_eq_some_iff.1 hu).1; rwa [hm] at this
  have h1 := rowsE_cell hm h hj' hi
  rw [add_zero', h1, hu]
theorem make_post {w : World} {r : List Chc × Nat × Nat} {e : Ending} {w' : World} (h : MakePost w r e w') :
    ∃ A c, e = .returned (.tuple #[.slice A r.1.length c, .int .i64 (r.2.1 : Nat), .int .i64 (r.2.2 : Nat)]) ∧ IsRows w' 2 A (r.1.map chcV) ∧ Below w.heap.size w w' := by
  obtain ⟨v, rfl, h1, h2⟩ := h
  obtain ⟨A, c, rfl, -, -, -⟩ := IsSlice.of_own h1
  exact ⟨A, c, rfl, own_rows chcV_length h1 rfl, h2⟩

namespace Plain
theorem outP_nth {l : List Itm} {i : Nat} (h : i < l.length) (p : Prf) (ch : List Chc) (hw : l[i].what ≠ 1) :
    ∃ h2 : (outP (l.take i) p ch).length < (outP l p ch).length, (outP l p ch)[(outP (l.take i) p ch).length] = ⟨l[i].path, actP l[i].what (progP p.merge l[i].path) p (lookC ch l[i].path)⟩ := by
  have e : outP l p ch = outP (l.take i) p ch ++ outP (l.drop i) p ch := by rw [← outP_append, List.take_append_drop]
  have e2 := outP_at h p ch
  rw [if_neg hw] at e2
  rw [e2] at e
  have hl : (outP (l.take i) p ch).length < (outP l p ch).length := by rw [e]; simp
  refine ⟨hl, ?_⟩
  have h3 : (outP l p ch)[(outP (l.take i) p ch).length]? = some ⟨l[i].path, actP l[i].what (progP p.merge l[i].path) p (lookC ch l[i].path)⟩ := by
    rw [e]; simp
  rw [List.getElem?_eq_getElem hl] at h3
  injection h3
theorem outP_cnt {l : List Itm} {i : Nat} (h : i < l.length) (p : Prf) (ch : List Chc) : (outP (l.take (i + 1)) p ch).length = if l[i].what = 1 then (outP (l.take i) p ch).length else (outP (l.take i) p ch).length + 1 := by
  rw [outP_take h]
  split
  · rfl
  · simp
end Plain

theorem awake_make : makeP [⟨[120], 2⟩, ⟨[121], 4⟩] ⟨[], 0, 0, true⟩ [] = ([⟨[120], 1⟩, ⟨[121], 0⟩], 0, 0) := by rfl

set_option maxRecDepth 100000 in
set_option maxHeartbeats 1000000 in
theorem awake_any (m : Int) (w : World) (hL : Laid w m) : Calls Tryd.prog 8 #[] w (Ret w (.bool true)) := by
  have hal := (Below.refl w.heap.size w).alloc (Nat.le_refl _) (Obj.cells #[.string ⟨#[120]⟩, .int .i64 2, .string ⟨#[121]⟩, .int .i64 4] 38)
  have hmk := Make_any [⟨[120], 2⟩, ⟨[121], 4⟩] (some ⟨w.heap.size, 0, none⟩) 2 none 0 0 none 0 0 none 0 ⟨[], 0, 0, true⟩ false [] none 0 m _ (hL.below hal) (fun k h => absurd h (by simp)) (by simp) (rows_block (enc := itmV) (fun _ => rfl) (heap_alloc_new w (Obj.cells #[.string ⟨#[120]⟩, .int .i64 2, .string ⟨#[121]⟩, .int .i64 4] 38))) (fun k h => absurd h (by simp)) (by simp) (by simp) (by simp) (by simp)
  rw [awake_make] at hmk
  have HM := Lib.hid hmk
  have HAL := Lib.hid hal
  clear hmk hal hL
  go_enter Tryd.func8, Tryd.ntmps8
  go_wp2_with (fail)
  refine HM.out.mono ?_
  intro e w2 hp
  obtain ⟨A, c, rfl, hr, hb⟩ := make_post hp
  obtain ⟨ad, rfl, q0, q1⟩ := chc_at hr (k := 0) (by simp)
  obtain ⟨ad2, e2, q2, q3⟩ := chc_at hr (k := 1) (by simp)
  injection e2 with e2
  subst e2
  simp only [List.getElem_cons_zero, List.getElem_cons_succ, Nat.zero_mul, Nat.one_mul] at q0 q1 q2 q3
  have HB := Lib.hid (HAL.out.trans (hb.mono HAL.out.size))
  replace q0 : w2.cell? ad = some (.string ⟨#[120]⟩) := q0
  replace q1 : w2.cell? ⟨ad.block, ad.off + 1, none⟩ = some (.int .i64 1) := q1
  replace q3 : w2.cell? ⟨ad.block, ad.off + 2 + 1, none⟩ = some (.int .i64 0) := q3
  clear hr hp hb
  go_wp2_with (fail)
  go_ret
  exact ⟨rfl, HB.out⟩

set_option maxRecDepth 100000 in
set_option maxHeartbeats 4000000 in
theorem PlanNothing_any (items : List Itm) (A : Option Addr) (ca : Nat) (A0 : Option Addr) (n0 c0 : Nat) (A1 : Option Addr) (n1 c1 : Nat) (A2 : Option Addr) (c2 : Nat) (p : Prf) (fast : Bool) (m : Int) (w : World) (hL : Laid w m)
    (hI : IsRows w 2 A (items.map itmV)) (hil : items.length ≤ 4294967296) (his : ∀ x ∈ items, x.path.length ≤ 9223372036854775807) :
    Calls Tryd.prog 4 #[.slice A items.length ca, profV A0 n0 c0 A1 n1 c1 A2 c2 p fast] w (Ret w (.bool true)) := by
  have HMK := Lib.hid (fun W (h : Below w.heap.size w W) => Make_any items A ca A0 n0 c0 A1 n1 c1 none 0 ⟨[], 0, 0, false⟩ fast [] none 0 m W (hL.below h) (fun k h => absurd h (by simp)) (by simp) (hI.below h) (fun k h => absurd h (by simp)) hil (by simp) his (by simp))
  have HAW := Lib.hid (fun W (h : Below w.heap.size w W) => awake_any m W (hL.below h))
  have HRI := Lib.hid (fun W (h : Below w.heap.size w W) => hI.below h)
  unfold profV at *
  obtain ⟨merge, prefer, force, batch⟩ := p
  clear hL hI
  obtain ⟨w1, hw1⟩ : ∃ w1, w.alloc (.cells #[.slice A0 n0 c0, .slice A1 n1 c1, .slice A2 merge.length c2, .int .i64 prefer, .int .i64 force, .bool batch, .bool fast] 26) = w1 := ⟨_, rfl⟩
  have HW1 := Lib.hid hw1
  have HB1 := Lib.hid (show Below w.heap.size w w1 by rw [← hw1]; exact (Below.refl _ _).alloc (Nat.le_refl _) _)
  have HP1 := Lib.hid (show w1.heap[w.heap.size]? = some (.cells #[.slice A0 n0 c0, .slice A1 n1 c1, .slice A2 merge.length c2, .int .i64 prefer, .int .i64 force, .bool batch, .bool fast] 26 (0, 0)) by rw [← hw1]; exact heap_alloc_new _ _)
  clear hw1
  go_enter Tryd.func4, Tryd.ntmps4
  go_wp2_with (fail)
  rw [HW1.out]
  refine (HAW.out _ HB1.out).mono ?_
  rintro e w2 ⟨rfl, hb2⟩
  have HP2 := (hb2.block _ (Array.getElem?_eq_some_iff.1 HP1.out).1).trans HP1.out
  have HB2 := Lib.hid (HB1.out.trans (hb2.mono HB1.out.size))
  have c0' := cell_of_row w2 w.heap.size 0 _ _ _ HP2
  have c1' := cell_of_row w2 w.heap.size 1 _ _ _ HP2
  have c2' := cell_of_row w2 w.heap.size 2 _ _ _ HP2
  have c3' := cell_of_row w2 w.heap.size 3 _ _ _ HP2
  have c4' := cell_of_row w2 w.heap.size 4 _ _ _ HP2
  have c5' := cell_of_row w2 w.heap.size 5 _ _ _ HP2
  have c6' := cell_of_row w2 w.heap.size 6 _ _ _ HP2
  have f2' : ∀ j, w2.frozen? ⟨w.heap.size, j, none⟩ = false := fun j => frozen_of_row w2 _ _ _ _ HP2
  obtain ⟨w3, hw3⟩ : ∃ w3, (((w2.setCell ⟨w.heap.size, 4, none⟩ (.int .i64 0)).setCell ⟨w.heap.size, 3, none⟩ (.int .i64 0)).setCell ⟨w.heap.size, 5, none⟩ (.bool false)).setCell ⟨w.heap.size, 2, none⟩ (.slice none 0 0) = w3 := ⟨_, rfl⟩
  have HW3 := Lib.hid hw3
  have HB3 := Lib.hid (show Below w.heap.size w w3 by rw [← hw3]; exact (((HB2.out.setCell (p := ⟨w.heap.size, 4, none⟩) (Nat.le_refl _) _).setCell (p := ⟨w.heap.size, 3, none⟩) (Nat.le_refl _) _).setCell (p := ⟨w.heap.size, 5, none⟩) (Nat.le_refl _) _).setCell (p := ⟨w.heap.size, 2, none⟩) (Nat.le_refl _) _)
  have HM3 := Lib.hid (HMK.out w3 HB3.out)
  clear hw3 HP2 hb2
  go_wp2_with (fail)
  rw [HW3.out]
  clear c0' c1' c2' c3' c4' c5' c6' f2'
  refine HM3.out.mono ?_
  intro e w4 hp
  obtain ⟨A', c', rfl, hr, hb4⟩ := make_post hp
  have HB4 := Lib.hid (HB3.out.trans (hb4.mono HB3.out.size))
  have HR := Lib.hid hr
  clear hp hr hb4 HM3 HW3
  rcases make_nil_err items ⟨[], 0, 0, false⟩ with he | he
  · obtain ⟨h1, h2, h3⟩ := make_ok he
    rw [h3] at HR ⊢
    have HN := Lib.hid (fun i (h : i < items.length) hw => outP_nth h ⟨[], 0, 0, false⟩ [] hw)
    have HCN := Lib.hid (fun i (h : i < items.length) => outP_cnt h ⟨[], 0, 0, false⟩ [])
    have HF := Lib.hid (show (outP (items.take items.length) ⟨[], 0, 0, false⟩ []) = outP items ⟨[], 0, 0, false⟩ [] by rw [List.take_of_length_le (Nat.le_refl _)])
    have hol := outP_length items ⟨[], 0, 0, false⟩ []
    simp only at HR ⊢
    clear he h1 h2 h3
    go_wp2_with (fail)
    go_loopw [8, 35] (fun t8 t35 W => ∃ (i : Nat), i ≤ items.length ∧ t35 = .int .i64 i ∧ t8 = .int .i64 (outP (items.take i) ⟨[], 0, 0, false⟩ []).length ∧ Hid (Below w4.heap.size w4 W)) (fun _ t35 _ => items.length - (intOf t35).toNat)
    case atStart => exact ⟨0, by omega, rfl, rfl, Lib.hid (Below.refl _ _)⟩
    case round =>
      obtain ⟨i, hi, rfl, rfl, HB⟩ := hrel
      have HBW := Lib.hid (HB4.out.trans (HB.out.mono HB4.out.size))
      have i0' : (0 : Int) ≤ i := by omega
      have e1 : IntKind.i64.wrap ((i : Int) + 1) = (i : Int) + 1 := IntWalk.i64_in _ (by omega)
      by_cases hlt : i < items.length
      · have i1 : (i : Int) < items.length := by omega
        obtain ⟨ad, rfl, q0, q1⟩ := itm_at (HRI.out _ HBW.out) hlt
        have hcn := HCN.out i hlt
        have hnt := HN.out i hlt
        have HBA := Lib.hid (HB.out.trans (((Below.refl wr.heap.size wr).alloc (Nat.le_refl _) (Obj.cells #[Value.string ⟨items[i].path.toArray⟩, Value.int .i64 items[i].what] 38)).mono HB.out.size))
        have HBA2 := Lib.hid (HB4.out.trans (HBA.out.mono HB4.out.size))
        generalize items[i].path = path at *
        generalize items[i].what = what at *
        by_cases hw : what = 1
        · rw [if_pos hw] at hcn
          have HC := Lib.hid hcn
          subst hw
          clear hcn hnt
          go_wp2_with (fail)
          go_roundw
          case rel => exact ⟨i + 1, by omega, by go_num, by rw [HC.out], HBA⟩
          case measure => simp [intOf]; omega
        · rw [if_neg hw] at hcn
          obtain ⟨hk, hnk⟩ := hnt hw
          have hw' : (what == 1) = false := beq_eq_false_iff_ne.2 hw
          rw [show progP [] path = [] from rfl, show lookC [] path = none from rfl, actP_nothing _ _ _ rfl rfl rfl rfl] at hnk
          obtain ⟨ad', rfl, r0, r1⟩ := chc_at (HR.out.below HBA.out) hk
          rw [hnk] at r0 r1
          have HC := Lib.hid hcn
          clear hnt hnk HN
          generalize (outP (items.take i) ⟨[], 0, 0, false⟩ []).length = k at *
          generalize (outP items ⟨[], 0, 0, false⟩ []).length = n at *
          have k0' : (0 : Int) ≤ k := by omega
          have k1 : (k : Int) < n := by omega
          have k2 : decide ((n : Int) ≤ (k : Int)) = false := by rw [decide_eq_false_iff_not]; omega
          have e2 : IntKind.i64.wrap ((k : Int) + 1) = (k : Int) + 1 := IntWalk.i64_in _ (by omega)
          clear hcn hw
          go_wp2_with (fail)
          go_quiet (fail)
          go_wp2_with (fail)
          go_roundw
          case rel => exact ⟨i + 1, by omega, by go_num, by rw [HC.out]; go_num, Lib.hid (below_drewN HBA.out _)⟩
          case measure => simp [intOf]; omega
      · obtain rfl : i = items.length := by omega
        rw [HF.out]
        go_wp2_with (fail)
        go_ret
        exact ⟨by simp, HBW.out⟩
  · have hl := make_len (items := items) (p := ⟨[], 0, 0, false⟩) (ch := []) (by omega)
    rw [he, hl]
    clear HR
    generalize (makeP items ⟨[], 0, 0, false⟩ []).2.1 = at_ at *
    go_wp2_with (fail)
    go_ret
    exact ⟨by simp, HB4.out⟩
end Go.Proofs.YtjhjepkmcbjgoaaDoor
end

/- append(s, x...): a slice (it may be nil) behind a row of the call's own. -/
section
namespace Go.Proofs.YtjhjepkmcbjgoaaDoor
open Go.RowKit

theorem wpList_append_slice {P : Program} {w : World} {ops : Array Oper} {rest : List Oper} {o : Oper} {a : Act} {Q : Exit → Act → World → Prop} (hgd : o.guard = none) (s x : Operand) (t : TypeId)
    (ho : o.op = .call { callee := .builtin .append, args := #[s, x], argTypes := #[t, t] })
    (base : Nat) (e : TypeId) (i : TypeInfo) (z : Value) (size bytes : Nat) (ht : P.underlying t = some (.slice e)) (hi : P.info? e = some i) (hz : i.zero = some z)
    (hsize : i.size = size) (hby : i.bytes = bytes) (hzs : z.cells.size = size) (hsz : 0 < size)
    (A : Option Addr) (n cap : Nat) (xs : List Value) (hs : a.eval s = .slice A n cap) (hown : w.ownsRow base e size (.slice A n cap) n xs)
    (X : Option Addr) (m c : Nat) (news : List Value) (hx : a.eval x = .slice X m c) (hl : Reads w size X m news) (h1 : ∀ u ∈ news, u.oneCell' = true)
    (h63 : n + m ≤ maxLen) (hbytes : (n + m) * bytes ≤ 140737488355328) (hbase : base ≤ w.heap.size)
    (h : ∀ A' cap' w', w'.ownsRow base e size (.slice A' (n + m) cap') (n + m) (xs ++ news) → w.grownBy w' (Value.slice A n cap).ownBlock → wpList P ops Q rest (a.put o.dst (.slice A' (n + m) cap')) w') : wpList P ops Q (o :: rest) a w := by
  cases X with
  | none =>
    have hm : m = 0 := by
      rcases Nat.eq_zero_or_pos m with h0 | h0
      · exact h0
      · obtain ⟨ad, e, -⟩ := hl.2 h0; cases e
    subst hm
    have hn : news = [] := List.eq_nil_of_length_eq_zero (by have := hl.1; simpa using this)
    subst hn
    have hle : n ≤ cap := by
      rcases hown.2 with ⟨hv, h0⟩ | ⟨g, cp, cur, hv, _, _, hc, _⟩
      · omega
      · injection hv with h1 h2 h3; omega
    have hr := run_append_nothing w t t o.type e i ht hi A n cap hle (.slice none 0 c) (Src.ofNil w ht c)
    have h2 := h A cap w (by rw [List.append_nil]; exact hown) (gb_refl w _)
    refine wpList_plain hgd fun _ hK => ?_
    unfold Oper.wp execOp
    simp only [ho, resolve, invoke, builtin, Sem.run_bind, Sem.run_pure, Result.andThen_ok, List.map_toArray, List.map_cons, List.map_nil, hs, hx, hr]
    exact hK _ _ h2
  | some ad =>
    by_cases hm : 0 < m
    · obtain ⟨ad', e1, hc⟩ := hl.2 hm
      injection e1 with e1
      subst e1
      refine wpList_append_two hgd s x t ho base e i z size bytes ht hi hz hsize hby hzs hsz _ n xs hs hown ad m c news hx hl.1 hc h1 h63 hbytes hbase fun v' w' h2 h3 _ => ?_
      obtain ⟨A', c', rfl, -⟩ := IsSlice.of_own h2
      exact h A' c' w' h2 h3
    · have hm0 : m = 0 := by omega
      subst hm0
      have hn : news = [] := List.eq_nil_of_length_eq_zero (by have := hl.1; simpa using this)
      subst hn
      refine wpList_append_two hgd s x t ho base e i z size bytes ht hi hz hsize hby hzs hsz _ n xs hs hown ad 0 c [] hx (by simp) (fun j u hu => by simp at hu) h1 h63 hbytes hbase fun v' w' h2 h3 _ => ?_
      obtain ⟨A', c', rfl, -⟩ := IsSlice.of_own h2
      exact h A' c' w' h2 h3
end Go.Proofs.YtjhjepkmcbjgoaaDoor
end
