/- slices.Backward; glob.last. -/
import Derived.Test.YtgppfcaghjbjmaaDoorGlob8
import Derived.Test.YtgppfcaghjbjmaaDoorOpen3
import Derived.Test.YtgppfcaghjbjmaaDoorRangeLaw2
import Derived.Test.YtgppfcaghjbjmaaDoorSplitSeq
namespace Go.Proofs.YtgppfcaghjbjmaaDoor
open Go.RowKit Go.Shelf Plain
attribute [local go_sem] Oper.semAt_some

def ruleV (r : Rule) : List Value := [.bool r.ign, .string ⟨r.pat.toArray⟩]
def RulesAt (w : World) (A : Option Addr) (l : List Rule) : Prop := IsRows w 2 A (l.map ruleV)
section
variable {w w' : World} {A : Option Addr} {l : List Rule}
theorem RulesAt.below (h : RulesAt w A l) (hb : Below w.heap.size w w') : RulesAt w' A l := IsRows.below h hb
theorem RulesAt.at_ (h : RulesAt w A l) {k : Nat} (hk : k < l.length) : ∃ ad, A = some ad ∧ w.cell? (ad.add (k * 2)) = some (.bool l[k].ign) ∧ w.cell? ⟨(ad.add (k * 2)).block, (ad.add (k * 2)).off + 1, none⟩ = some (.string ⟨l[k].pat.toArray⟩) := by
  obtain ⟨ad, hA, h0, h1⟩ := IsRows.at_ h (k := k) (by simpa using hk)
  exact ⟨ad, hA, h0 _ (by simp [ruleV]), h1 0 _ (by simp [ruleV])⟩
theorem cell_hold {p : Addr} {v : Value} (hh : ∀ k, k < w.heap.size → w'.heap[k]? = w.heap[k]?) (h : w.cell? p = some v) : w'.cell? p = some v := by
  have := World.block_lt_of_cell? _ _ h
  rw [← h]; unfold World.cell?; rw [hh _ this]
theorem RulesAt.hold (h : RulesAt w A l) (hh : ∀ k, k < w.heap.size → w'.heap[k]? = w.heap[k]?) : RulesAt w' A l := by
  intro k hk
  obtain ⟨ad, hA, hc⟩ := h k hk
  exact ⟨ad, hA, fun j u hu => cell_hold hh (hc j u hu)⟩
end
instance : Inhabited Rule := ⟨⟨[], false⟩⟩
/-- the first k rules, the last of them first -/
def backs (l : List Rule) : Nat → List (Nat × Rule)
  | 0 => []
  | k + 1 => (k, l.getD k default) :: backs l k
theorem backs_snd (l : List Rule) : ∀ k, k ≤ l.length → (backs l k).map (·.2) = (l.take k).reverse
  | 0, _ => rfl
  | k + 1, h => by
    show l.getD k default :: (backs l k).map (·.2) = _
    rw [backs_snd l k (by omega), List.take_succ_eq_append_getElem (by omega), List.reverse_append]
    simp [List.getD, show k < l.length by omega]
def encR (x : Nat × Rule) : Array Value := #[.int .i64 (x.1 : Nat), .agg #[.bool x.2.ign, .string ⟨x.2.pat.toArray⟩]]
theorem lastG_none {l : List Rule} {s : List UInt8} (h : ∀ x ∈ backs l l.length, matchG x.2.pat s = false) : lastG l s = false := by
  have hb := backs_snd l l.length (Nat.le_refl _)
  rw [List.take_of_length_le (Nat.le_refl _)] at hb
  unfold lastG lastR
  rw [← hb]
  have : ((backs l l.length).map (·.2)).find? (fun r => matchG r.pat s) = none := by
    rw [List.find?_eq_none]
    intro r hr
    obtain ⟨x, hx, rfl⟩ := List.mem_map.1 hr
    rw [h x hx]; decide
  rw [this]
theorem lastG_some {l : List Rule} {s : List UInt8} {p : List (Nat × Rule)} {x : Nat × Rule} (hp : p ++ [x] <+: backs l l.length) (h : ∀ y ∈ p, matchG y.2.pat s = false) (hx : matchG x.2.pat s = true) : lastG l s = x.2.ign := by
  have hb := backs_snd l l.length (Nat.le_refl _)
  rw [List.take_of_length_le (Nat.le_refl _)] at hb
  obtain ⟨t, ht⟩ := hp
  unfold lastG lastR
  rw [← hb, ← ht, List.append_assoc, List.map_append, List.find?_append]
  have : (p.map (·.2)).find? (fun r => matchG r.pat s) = none := by
    rw [List.find?_eq_none]
    intro r hr
    obtain ⟨y, hy, rfl⟩ := List.mem_map.1 hr
    rw [h y hy]; decide
  rw [this]
  simp [hx]

set_option maxHeartbeats 2000000 in
theorem backward1_in (n l b1 c : Nat) (w : World) (rules : List Rule) (A : Option Addr) (J Jx : List (Nat × Rule) → World → Prop)
    (hlen : rules.length ≤ 4294967296) (hR : RulesAt w A rules) (hc1 : w.cell? ⟨b1, 0, none⟩ = some (.slice A rules.length c))
    (hY : ∀ pre x W1, J pre W1 → YieldAt Fence.wide (n - 1) Tryd.prog l (encR x) W1 fun e W' =>
      (e = .returned (.bool true) ∧ J (pre ++ [x]) W' ∧ Below w.heap.size W1 W') ∨ (e = .returned (.bool false) ∧ Jx (pre ++ [x]) W'))
    (W : World) (hold : ∀ k, k < w.heap.size → W.heap[k]? = w.heap[k]?) (h0 : J [] W) :
    CallsIn Fence.wide n Tryd.prog 73 #[.func (.yield l) #[] #[], .pointer (some ⟨b1, 0, none⟩)] W fun e W' => (∃ v, e = .returned v) ∧ (J (backs rules rules.length) W' ∨ ∃ pre, pre <+: backs rules rules.length ∧ Jx pre W') := by
  have HJ := Lib.hid h0
  have HY := Lib.hid hY
  have HH := Lib.hid hold
  have HC := Lib.hid hc1
  have HRL := Lib.hid hR
  have hcW := cell_hold hold hc1
  have e0 : IntKind.i64.wrap ((rules.length : Int) - 1) = (rules.length : Int) - 1 := IntWalk.i64_in _ (by omega)
  clear hY hold hc1 hR h0
  refine callsIn_of_wp Tryd.func73 rfl trivial ?_ rfl
  simp only [Tryd.ntmps73, List.size_toArray, List.length_cons, List.length_nil, Nat.reduceAdd, Nat.reduceSub, Array.replicate_succ, Array.replicate_zero, List.push_toArray, List.append_toArray, List.nil_append, List.cons_append]
  gi_wp2
  gi_loopw [3] (fun t3 W' => ∃ (k : Nat) (d : List (Nat × Rule)), k ≤ rules.length ∧ t3 = .int .i64 ((k : Int) - 1) ∧ Hid (backs rules rules.length = d ++ backs rules k) ∧ Hid (∀ j, j < w.heap.size → W'.heap[j]? = w.heap[j]?) ∧ Hid (J d W')) (fun t3 _ => (intOf t3 + 1).toNat)
  case atStart => exact ⟨rules.length, [], Nat.le_refl _, rfl, Lib.hid rfl, HH, HJ⟩
  case round =>
    clear hcW HJ HH
    obtain ⟨k, d, hk, rfl, HP, HH, HJ⟩ := hrel
    have hcW := cell_hold HH.out HC.out
    rcases k with _ | j
    · gi_wp2
      go_end0
      exact ⟨⟨_, rfl⟩, .inl (by rw [HP.out]; simpa [backs] using HJ.out)⟩
    · have e1 : ((j + 1 : Nat) : Int) - 1 = j := by omega
      rw [e1]
      obtain ⟨ad, rfl, h1, h2⟩ := (HRL.out.hold HH.out).at_ (k := j) (by omega)
      have hx : backs rules (j + 1) = (j, rules[j]) :: backs rules j := by
        show (j, rules.getD j default) :: backs rules j = _
        simp [List.getD, show j < rules.length by omega]
      have hy := HY.out d (j, rules[j]) wr HJ.out
      unfold encR at hy
      obtain ⟨fn, tmps, assign, body, hy, hR⟩ := hy
      have HR := Lib.hid hR
      have HX := Lib.hid hx
      have j0 : (0 : Int) ≤ j := by omega
      have j1 : (j : Int) < rules.length := by omega
      have e2 : IntKind.i64.wrap ((j : Int) - 1) = (j : Int) - 1 := IntWalk.i64_in _ (by omega)
      clear hR hx
      simp only at hy
      generalize rules[j] = ru at *
      gi_wp2
      refine ⟨fun h => (by cases h), HR.out.mono ?_⟩
      rintro e W3 (⟨rfl, hJ3, hk3⟩ | ⟨rfl, hJx3⟩)
      · have HJ3 := Lib.hid hJ3
        have HH3 := Lib.hid (fun i hi => (hk3.block i hi).trans (HH.out i hi))
        clear hJ3 hk3 hcW h1 h2 hy
        gi_wp2
        go_roundw
        case rel => exact ⟨j, d ++ [(j, ru)], by omega, rfl, Lib.hid (by rw [HP.out, HX.out]; simp), HH3, HJ3⟩
        case measure => simp [intOf]
      · gi_wp2
        refine bodyPost_ret (results_none rfl _ _ _) rfl ?_
        exact ⟨⟨_, rfl⟩, .inr ⟨_, ⟨backs rules j, by rw [HP.out, HX.out]; simp⟩, hJx3⟩⟩

theorem Backward_any (A : Option Addr) (n c : Nat) (w : World) :
    Calls Tryd.prog 52 #[.slice A n c] w fun e w' =>
      e = .returned (.func (.func 73) #[] #[.pointer (some ⟨w.heap.size, 0, none⟩)]) ∧ w' = w.alloc (.cells #[.slice A n c] 28) := by
  go_enter Tryd.func52, Tryd.ntmps52
  go_wp2_with (fail)
  go_ret
  exact ⟨rfl, rfl⟩

/-- What the loop keeps. -/
def LastI (w : World) (s : List UInt8) (pre : List (Nat × Rule)) (W : World) : Prop :=
  (∀ x ∈ pre, matchG x.2.pat s = false) ∧ Below w.heap.size w W ∧ W.cell? ⟨w.heap.size, 0, none⟩ = some (.string ⟨s.toArray⟩) ∧ W.cell? ⟨w.heap.size + 1, 0, none⟩ = some (.bool false) ∧ W.frozen? ⟨w.heap.size + 1, 0, none⟩ = false
def LastX (w : World) (s : List UInt8) (pre : List (Nat × Rule)) (W : World) : Prop :=
  (∃ p x, pre = p ++ [x] ∧ (∀ y ∈ p, matchG y.2.pat s = false) ∧ matchG x.2.pat s = true ∧ W.cell? ⟨w.heap.size + 1, 0, none⟩ = some (.bool x.2.ign)) ∧ Below w.heap.size w W

set_option maxHeartbeats 4000000 in
theorem last_any (rules : List Rule) (A : Option Addr) (c : Nat) (s : List UInt8) (m : Int) (w : World) (hL : Laid w m) (hR : RulesAt w A rules) (hlen : rules.length ≤ 4294967296) :
    Calls Tryd.prog 34 #[.slice A rules.length c, .string ⟨s.toArray⟩] w (Ret w (.bool (lastG rules s))) := by
  have HM := Lib.hid (fun p W (h : Below w.heap.size w W) => Match_all p s m W (hL.below h))
  have HBK := Lib.hid (fun W => Backward_any A rules.length c W)
  have HRR := Lib.hid hR
  clear hL hR
  refine (callsIn_wide (n := 5)).1 ?_
  refine callsIn_of_wp_marks Tryd.func34 rfl trivial ?_ rfl
  simp only [Tryd.ntmps34, List.size_toArray, List.length_cons, List.length_nil, Nat.reduceAdd, Nat.reduceSub, Array.replicate_succ, Array.replicate_zero, List.push_toArray, List.append_toArray, List.nil_append, List.cons_append]
  gi_wp2
  refine ⟨trivial, (callsIn_wide.2 (HBK.out _)).mono ?_⟩
  rintro e w1 ⟨rfl, hw1⟩
  have hsz : w1.heap.size = w.heap.size + 3 := by rw [hw1]; simp
  have hB0 : Below w.heap.size w w1 := by
    rw [hw1]; exact (((Below.refl _ _).alloc (Nat.le_refl _) _).alloc (by simp) _).alloc (by simp; omega) _
  have hc0 : w1.cell? ⟨w.heap.size, 0, none⟩ = some (.string ⟨s.toArray⟩) := by rw [hw1]; simp [go_sem]
  have hc1 : w1.cell? ⟨w.heap.size + 1, 0, none⟩ = some (.bool false) := by rw [hw1]; simp [go_sem]
  have hf1 : w1.frozen? ⟨w.heap.size + 1, 0, none⟩ = false := by rw [hw1]; simp [go_sem]
  have hc2 : w1.cell? ⟨w.heap.size + 1 + 1, 0, none⟩ = some (.slice A rules.length c) := by rw [hw1]; simp [go_sem]
  simp only [World.size_alloc]
  clear hw1
  have HB0 := Lib.hid hB0
  have HC := Lib.hid (And.intro hc0 (And.intro hc1 (And.intro hf1 hc2)))
  have HSZ := Lib.hid hsz
  clear hsz hB0 hc0 hc1 hf1 hc2
  gi_wp2
  refine rangeFunc_box (n := 5) (gf := 73) (lb := #[.pointer (some ⟨w.heap.size + 1 + 1, 0, none⟩)]) ?c0 (enters_of Tryd.func73 (by kernel_rfl) rfl) (encs := encR) (fun _ => rfl) (backs rules rules.length) (LastI w s) (LastX w s) (w.heap.size + 1 + 1) (by rw [HSZ.out]; omega) ?hseq ?hst ?hput ?hxput ?h0
    (fun x a' W => ∃ bx, w1.heap.size + 2 ≤ bx ∧ W.cell? ⟨bx, 0, none⟩ = some (.bool x.2.ign) ∧ W.cell? ⟨bx, 1, none⟩ = some (.string ⟨x.2.pat.toArray⟩) ∧ a' = { tmps := #[.slice A rules.length c, .string ⟨s.toArray⟩, undef, .pointer (some ⟨w.heap.size, 0, none⟩), .pointer (some ⟨w.heap.size + 1, 0, none⟩), undef, .pointer (some ⟨bx, 0, none⟩), .slice A rules.length c, .func (.func 73) #[] #[.pointer (some ⟨w.heap.size + 1 + 1, 0, none⟩)], .int .i64 (x.1 : Nat), .agg #[.bool x.2.ign, .string ⟨x.2.pat.toArray⟩], undef, undef, undef, undef, undef, undef], defers := [] }) ?haput ?assign ?body ?done ?stop
  case c0 => rfl
  case hseq =>
    intro l J Jx W hold hst hY h0
    obtain ⟨k1, k2, k3, k4⟩ := HC.out
    exact backward1_in (5 - 1) l (w.heap.size + 1 + 1) c w1 rules A J Jx hlen (HRR.out.below HB0.out) k4 hY W hold h0
  case hst =>
    rintro pre W v ⟨h1, h2, h3, h4, h5⟩
    exact ⟨h1, h2.setCell (by show w.heap.size ≤ w.heap.size + 1 + 1; omega) _, by rw [World.cell?_setCell_other _ _ _ _ (by intro e; injection e with e; omega)]; exact h3, by rw [World.cell?_setCell_other _ _ _ _ (by intro e; injection e with e; omega)]; exact h4, by rw [World.frozen?_setCell]; exact h5⟩
  case hput =>
    rintro pre W l o hl ⟨h1, h2, h3, h4, h5⟩
    rw [HSZ.out] at hl
    have hk0 : (W.putObj l o).heap[w.heap.size]? = W.heap[w.heap.size]? := World.putObj_heap_other (by omega)
    have hk1 : (W.putObj l o).heap[w.heap.size + 1]? = W.heap[w.heap.size + 1]? := World.putObj_heap_other (by omega)
    refine ⟨h1, below_put h2 (by omega) _, ?_, ?_, ?_⟩
    · rw [← h3]; unfold World.cell?; simp only [hk0]
    · rw [← h4]; unfold World.cell?; simp only [hk1]
    · rw [← h5]; unfold World.frozen?; simp only [hk1]
  case hxput =>
    rintro pre W l o hl ⟨⟨p, x, e, h1, h2, h3⟩, h4⟩
    rw [HSZ.out] at hl
    have hk1 : (W.putObj l o).heap[w.heap.size + 1]? = W.heap[w.heap.size + 1]? := World.putObj_heap_other (by omega)
    refine ⟨⟨p, x, e, h1, h2, ?_⟩, below_put h4 (by omega) _⟩
    rw [← h3]; unfold World.cell?; simp only [hk1]
  case h0 =>
    intro o1 o2
    obtain ⟨k1, k2, k3, k4⟩ := HC.out
    have hlt := World.block_lt_of_cell? _ _ k1
    have hlt1 := World.block_lt_of_cell? _ _ k2
    have hbb := (((Below.refl w1.heap.size w1).alloc (Nat.le_refl _) o1).alloc (by simp) o2)
    exact ⟨(fun x hx => by cases hx), HB0.out.trans (hbb.mono HB0.out.size), (hbb.cell (p := ⟨w.heap.size, 0, none⟩) hlt).trans k1, (hbb.cell (p := ⟨w.heap.size + 1, 0, none⟩) hlt1).trans k2, (hbb.frozen (p := ⟨w.heap.size + 1, 0, none⟩) hlt1).trans k3⟩
  case haput =>
    rintro x a' W o ⟨bx, hb, h1, h2, h3⟩
    have hk : (W.putObj (w1.heap.size + 1) o).heap[bx]? = W.heap[bx]? := World.putObj_heap_other (by omega)
    refine ⟨bx, hb, ?_, ?_, h3⟩
    · rw [← h1]; unfold World.cell?; simp only [hk]
    · rw [← h2]; unfold World.cell?; simp only [hk]
  case assign =>
    intro l pre x W K hI hlt hK
    unfold encR
    gi_wp2
    obtain ⟨h1, h2, h3, h4, h5⟩ := hI
    have hbb := (Below.refl W.heap.size W).alloc (Nat.le_refl _) (Obj.cells #[Value.bool x.2.ign, Value.string ⟨x.2.pat.toArray⟩] 30)
    have hlt0 := World.block_lt_of_cell? _ _ h3
    have hlt1 := World.block_lt_of_cell? _ _ h4
    exact hK _ _ ⟨W.heap.size, by omega, by simp [go_sem], by simp [go_sem], rfl⟩ ⟨h1, h2.trans (hbb.mono h2.size), (hbb.cell (p := ⟨w.heap.size, 0, none⟩) hlt0).trans h3, (hbb.cell (p := ⟨w.heap.size + 1, 0, none⟩) hlt1).trans h4, (hbb.frozen (p := ⟨w.heap.size + 1, 0, none⟩) hlt1).trans h5⟩ hbb
  case body =>
    rintro l pre x a' W ⟨h1, h2, h3, h4, h5⟩ ⟨bx, hb, b1, b2, rfl⟩ hlt
    obtain ⟨xi, ru⟩ := x
    simp only at b1 b2 ⊢
    have hN := HM.out ru.pat W h2
    have H1 := Lib.hid h1
    have hlt0 := World.block_lt_of_cell? _ _ h3
    have hlt1 := World.block_lt_of_cell? _ _ h4
    have hltb := World.block_lt_of_cell? _ _ b1
    clear h1
    cases hx : matchG ru.pat s with
    | true =>
      rw [hx] at hN
      have HN := Lib.hid hN
      have HX := Lib.hid hx
      clear hN hx
      gi_wp2
      refine ⟨trivial, (CallsIn.inRound l (callsIn_wide.2 HN.out)).mono ?_⟩
      rintro e w2 ⟨rfl, hw2⟩
      have h4' := (hw2.cell (p := ⟨w.heap.size + 1, 0, none⟩) hlt1).trans h4
      have h5' := (hw2.frozen (p := ⟨w.heap.size + 1, 0, none⟩) hlt1).trans h5
      have b1' := (hw2.cell (p := ⟨bx, 0, none⟩) hltb).trans b1
      clear h3 h4 h5 b1 b2
      gi_wp2
      refine ⟨fun k q1 q2 => ?_, ⟨pre, (xi, ru), rfl, H1.out, HX.out, World.cell?_setCell_same' _ _ _ (by rw [h4']; rfl)⟩, ?_⟩
      · rw [HSZ.out] at q1
        exact (Below.heap_setCell _ _ _ _ (by show k ≠ w.heap.size + 1; omega)).trans (hw2.block k q2)
      · exact (h2.trans (hw2.mono h2.size)).setCell (by show w.heap.size ≤ w.heap.size + 1; omega) _
    | false =>
      rw [hx] at hN
      have HN := Lib.hid hN
      have HX := Lib.hid hx
      clear hN hx
      gi_wp2
      refine ⟨trivial, (CallsIn.inRound l (callsIn_wide.2 HN.out)).mono ?_⟩
      rintro e w2 ⟨rfl, hw2⟩
      gi_wp2
      refine ⟨fun k h1 h2 => hw2.block k h2, hw2.mono (by omega), fun y hy => ?_, h2.trans (hw2.mono h2.size), (hw2.cell (p := ⟨w.heap.size, 0, none⟩) hlt0).trans h3, (hw2.cell (p := ⟨w.heap.size + 1, 0, none⟩) hlt1).trans h4, (hw2.frozen (p := ⟨w.heap.size + 1, 0, none⟩) hlt1).trans h5⟩
      rw [List.mem_append, List.mem_singleton] at hy
      rcases hy with hy | rfl
      · exact H1.out y hy
      · exact HX.out
  case done =>
    rintro W ⟨h1, h2, h3, h4, h5⟩ hK
    have HA := Lib.hid (lastG_none h1)
    clear h1
    have hlt := World.block_lt_of_cell? _ _ h4
    have hK' : (W.setCell ⟨w.heap.size + 1, 0, none⟩ (.bool false)).heap[w1.heap.size]? = some (.deferred (some [])) := (Below.heap_setCell _ _ _ _ (by show w1.heap.size ≠ w.heap.size + 1; rw [HSZ.out]; omega)).trans hK
    gi_wp2
    refine ⟨by simp, .inl ⟨_, _, rfl, run_takeDeferred hK', ?_⟩⟩
    have hcell : ((W.setCell ⟨w.heap.size + 1, 0, none⟩ (.bool false)).putObj w1.heap.size (.deferred none)).cell? ⟨w.heap.size + 1, 0, none⟩ = some (.bool false) := by
      have hk : ((W.setCell ⟨w.heap.size + 1, 0, none⟩ (.bool false)).putObj w1.heap.size (.deferred none)).heap[w.heap.size + 1]? = (W.setCell ⟨w.heap.size + 1, 0, none⟩ (.bool false)).heap[w.heap.size + 1]? := World.putObj_heap_other (by rw [HSZ.out]; omega)
      have h5 : (W.setCell ⟨w.heap.size + 1, 0, none⟩ (.bool false)).cell? ⟨w.heap.size + 1, 0, none⟩ = some (.bool false) := World.cell?_setCell_same' _ _ _ (by rw [h4]; rfl)
      rw [← h5]; unfold World.cell?; simp only [hk]
    refine ⟨_, results_cell_one Tryd.results34 _ _ ⟨w.heap.size + 1, 0, none⟩ _ rfl hcell Tryd.isAgg4, ?_⟩
    exact ⟨by rw [HA.out], below_put (h2.setCell (by show w.heap.size ≤ w.heap.size + 1; omega) _) (by rw [HSZ.out]; omega) _⟩
  case stop =>
    rintro pre W hpre ⟨⟨p, x, rfl, h1, h2, h3⟩, h4⟩ hK
    have HA := Lib.hid (lastG_some hpre h1 h2)
    clear h1 h2 hpre
    gi_wp2
    refine ⟨by simp, .inl ⟨_, _, rfl, run_takeDeferred hK, ?_⟩⟩
    have hcell : (W.putObj w1.heap.size (.deferred none)).cell? ⟨w.heap.size + 1, 0, none⟩ = some (.bool x.2.ign) := by
      have hk : (W.putObj w1.heap.size (.deferred none)).heap[w.heap.size + 1]? = W.heap[w.heap.size + 1]? := World.putObj_heap_other (by rw [HSZ.out]; omega)
      rw [← h3]; unfold World.cell?; simp only [hk]
    refine ⟨_, results_cell_one Tryd.results34 _ _ ⟨w.heap.size + 1, 0, none⟩ _ rfl hcell Tryd.isAgg4, ?_⟩
    exact ⟨by rw [HA.out], below_put h4 (by rw [HSZ.out]; omega) _⟩
end Go.Proofs.YtgppfcaghjbjmaaDoor
