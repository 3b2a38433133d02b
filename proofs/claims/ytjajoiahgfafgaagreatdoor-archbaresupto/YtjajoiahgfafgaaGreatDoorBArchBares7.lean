/- Texts joined: Close, Open, Open2, Open3, Tree3, Tree4, Loads, LoadAt, Tree5. -/
import Derived.Test.YtjajoiahgfafgaaGreatDoorBCodeBaseC1
import Derived.ProofKit
import Derived.OpenShut
import Derived.JoinedCond
import Derived.Deep.CondSized
import Derived.Deep.Slices
import Derived.Deep.Fields
import Derived.ChangeSame
import Derived.Test.YtjajoiahgfafgaaGreatDoorBArchBares6
import Derived.Deep.MidRow
set_option linter.unusedSimpArgs false
set_option linter.unusedVariables false

/- The closing of a law's statement: whatever the law's arguments, it answers true and leaves old memory as it was. -/
section
namespace Go.Proofs.YtjajoiahgfafgaaGreatDoor
open Go.ChangeShapes Go.WideShapes Go.ChangeAt Go.RowKit

theorem own : ownKnob Tryz.prog.godebug = none := by kernel_rfl
theorem laidOut : laidOutB Tryz.prog = true := by kernel_rfl

section
variable {H : Type} {enc : TypeId × Value → H} {P : Program}
theorem trodAll_below (hl : laidOutB P = true) {W W' : World} (hb : Below W.heap.size W W') : ∀ {ts : List TypeId} {vs : List Value} {ds : List (DataW H)} {ps : List MemPlace},
    DataW.TrodAll enc P W 0 (fun _ => true) true ts vs ds ps → (ts.all fun t => P.readableRec t && decide (t < P.types.size)) = true → (∀ x ∈ ps, x.block < W.heap.size) →
    DataW.TrodAll enc P W' 0 (fun b => decide (b < W.heap.size)) true ts vs ds ps
  | [], [], [], _, h, _, _ => h
  | t :: ts, v :: vs, d :: ds, ps, h, hr, hlt => by
    obtain ⟨p, q, h1, h2, rfl⟩ := h
    simp only [List.all_cons, Bool.and_eq_true, decide_eq_true_eq] at hr
    exact ⟨p, q, Below.trod hl hr.1.1 hr.1.2 h1 hb (fun x hx => hlt x (List.mem_append_left _ hx)), trodAll_below hl hb h2 (by simpa using hr.2) (fun x hx => hlt x (List.mem_append_right _ hx)), rfl⟩
  | [], [], _ :: _, _, h, _, _ => h.elim
  | [], _ :: _, _, _, h, _, _ => h.elim
  | _ :: _, [], _, _, h, _, _ => h.elim
  | _ :: _, _ :: _, [], _, h, _, _ => h.elim

theorem law_post {f : Func} {s : ChangeSpec} {W W' : World} {args : Array Value} {ds gs : List (DataW H)} {before : List MemPlace} {tb : TypeId}
    (hvars : s.vars = []) (hW : DataW.Whole enc P f.params.toList s.vars false W args.toList ds gs before)
    (hfn : s.fn H (ds ++ gs) = { results := [.lit (.bool true)], args := ds }) (hres : f.resultTypes = #[tb]) (htb : P.underlying tb = some .bool)
    (hread : (f.params.toList.all fun t => P.readableRec t && decide (t < P.types.size)) = true) (hl : laidOutB P = true) (hb : Below W.heap.size W W') :
    s.post enc P f false true false false W args (.bool true) W' := by
  have hW' := hW
  obtain ⟨p, q, hA, hV, hpq, hfz, hnd⟩ := hW
  refine ⟨ds, gs, before, [], p, [], hW', ?_, ?_, ?_, ?_, fun h => by cases h⟩
  · rw [hfn, hres]
    exact trodAll_mk1 (shut_bool htb _)
  · rw [hfn]
    exact trodAll_below hl hb hA hread (fun x hx => hW'.lt x (by rw [hpq]; exact List.mem_append_left _ hx))
  · rw [hfn, hvars]
    exact rfl
  · exact hb.frame _
end

end Go.Proofs.YtjajoiahgfafgaaGreatDoor
end

/- Opening of arguments: lists of texts; what the bound of the second form gives. -/
section
namespace Go.Proofs.YtjajoiahgfafgaaGreatDoor
open Go.ChangeShapes Go.WideShapes Go.ChangeAt Go.RowKit

section
variable {H : Type} {enc : TypeId × Value → H} {P : Program} {w : World} {base : Nat} {held : Bool}

theorem toList_mk (s : ByteArray) : (⟨s.data.toList.toArray⟩ : ByteArray) = s := by cases s; simp

/-- A []string among the arguments: the texts that it reads as. -/
theorem open_texts {r : Reach} {b0 : Nat} {t e : TypeId} {v : Value} {d : DataW H} {ps : List MemPlace} (ht : P.underlying t = some (.slice e)) (he : P.underlying e = some .string) (hc : P.cellsOf e = 1)
    (hval : Value.okWide P w r b0 t v) (hd : DataW.Trod enc P w base (fun _ => true) held t v d ps) :
    ∃ A c, ∃ l : List (List UInt8), v = .slice A l.length c ∧ l.length ≤ c ∧ c ≤ maxLen ∧ Reads w 1 A l.length (strs l) ∧ (∀ s ∈ l, s.length ≤ maxLen) ∧
      ((d = .nil ∧ l = []) ∨ ∃ sp, d = .slice (l.map fun s => .lit (.string s)) sp) := by
  obtain ⟨a0, len, cap, rfl⟩ := okWide_slice ht hval
  obtain ⟨fuel, hf⟩ := hd
  rcases open_strings ht he hc hf with ⟨hcs, hx⟩ | ⟨a, len', cap', ss, hcs, _, hl, hm, hz, hx, hcell, hws⟩
  · simp [Value.cells] at hcs
    obtain ⟨rfl, rfl, rfl⟩ := hcs
    simp only [Prod.mk.injEq] at hx
    exact ⟨none, 0, [], rfl, Nat.le_refl _, Nat.zero_le _, Reads.nil _ _ _, by simp, .inl ⟨hx.1, rfl⟩⟩
  · simp [Value.cells] at hcs
    obtain ⟨rfl, rfl, rfl⟩ := hcs
    simp only [if_true] at hz
    simp only [Prod.mk.injEq] at hx
    have hlen : ((ss.take len).map fun s => s.data.toList).length = len := by simp; omega
    refine ⟨some a, cap, (ss.take len).map fun s => s.data.toList, by rw [hlen], by omega, hm, ⟨by rw [strs_length, Nat.mul_one], fun _ => ⟨a, rfl, fun j u hu => ?_⟩⟩, ?_, .inr ⟨_, by rw [hx.1, List.map_map]; rfl⟩⟩
    · have hj : j < len := by
        have := (List.getElem?_eq_some_iff.1 hu).1
        rw [strs_length, hlen] at this
        exact this
      rw [hcell j (by omega)]
      have hjs : j < ss.length := by omega
      rw [strs, List.map_map, List.getElem?_map, List.getElem?_take_of_lt hj, List.getElem?_eq_getElem hjs] at hu
      simp only [Option.map_some, Option.some.injEq] at hu
      rw [← hu]
      simp [strV, List.getD, hjs]
    · intro s hs
      simp only [List.mem_map] at hs
      obtain ⟨b, hb, rfl⟩ := hs
      have := hws b (List.mem_of_mem_take hb)
      simpa using this

/-! ### The bound of the second form -/
theorem bulk_one (d : DataW H) : 1 ≤ Rows.uptoBulk d := by
  cases d with
  | lit l => cases l <;> simp [Rows.uptoBulk]
  | nil => simp [Rows.uptoBulk]
  | ptr d => simp [Rows.uptoBulk]
  | slice elems spare => simp [Rows.uptoBulk]
  | agg parts => simp [Rows.uptoBulk]
  | iface t d => simp [Rows.uptoBulk]
  | map entries => simp [Rows.uptoBulk]
  | held h => simp [Rows.uptoBulk]

theorem bulk_bound {l : List (DataW H)} (hk : Rows.uptoSmall H l = true) : Rows.uptoBulkAll l ≤ 1048576 := of_decide_eq_true hk

/-- the letters and places of a list of texts -/
def weight (l : List (List UInt8)) : Nat := (l.map fun s => s.length + 1).sum
theorem bulk_texts (l : List (List UInt8)) : Rows.uptoBulkAll (l.map fun s => (DataW.lit (.string s) : DataW H)) = weight l := by
  unfold weight
  induction l with
  | nil => simp [Rows.uptoBulkAll]
  | cons s l ih => simp only [List.map_cons, Rows.uptoBulkAll, ih, Rows.uptoBulk, List.sum_cons]
theorem weight_le_bulk {l : List (List UInt8)} {d : DataW H} (h : (d = .nil ∧ l = []) ∨ ∃ sp, d = .slice (l.map fun s => .lit (.string s)) sp) : weight l ≤ Rows.uptoBulk d := by
  rcases h with ⟨rfl, rfl⟩ | ⟨sp, rfl⟩
  · simp [weight]
  · simp only [Rows.uptoBulk, bulk_texts]; omega
theorem weight_length (l : List (List UInt8)) : l.length ≤ weight l := by
  unfold weight
  induction l with
  | nil => simp
  | cons s l ih => simp only [List.length_cons, List.map_cons, List.sum_cons]; omega
theorem weight_mem {l : List (List UInt8)} {s : List UInt8} (h : s ∈ l) : s.length + 1 ≤ weight l := by
  unfold weight
  induction l with
  | nil => cases h
  | cons t l ih =>
    simp only [List.map_cons, List.sum_cons]
    rcases List.mem_cons.1 h with rfl | h
    · omega
    · have := ih h; omega
end

end Go.Proofs.YtjajoiahgfafgaaGreatDoor
end

/- Opening of arguments: lists of numbers, lists of bools, lists of whatever one cell holds. -/
section
namespace Go.Proofs.YtjajoiahgfafgaaGreatDoor
open Go.ChangeShapes Go.WideShapes Go.ChangeAt Go.RowKit Go.Deep

section
variable {H : Type} {enc : TypeId × Value → H} {P : Program} {w : World} {base : Nat} {held : Bool}

theorem bulkAll_range (n : Nat) (D : Nat → DataW H) (f : Nat → Nat) (h : ∀ i, i < n → f i ≤ Rows.uptoBulk (D i)) : ((List.range n).map f).sum ≤ Rows.uptoBulkAll ((List.range n).map D) := by
  have key : ∀ l : List Nat, (∀ i ∈ l, i < n) → (l.map f).sum ≤ Rows.uptoBulkAll (l.map D) := by
    intro l
    induction l with
    | nil => intro _; simp [Rows.uptoBulkAll]
    | cons a l ih =>
      intro hl
      have h1 := ih (fun i hi => hl i (List.mem_cons_of_mem _ hi))
      have h2 := h a (hl a (List.mem_cons_self ..))
      simp only [List.map_cons, List.sum_cons, Rows.uptoBulkAll]
      omega
  exact key _ (fun i hi => List.mem_range.1 hi)

/-- A slice of cells among the arguments: what its cells read as, and its weight. -/
theorem open_list1 {α : Type} [Inhabited α] (El : Value → α → Prop) (wt : α → Nat) {r : Reach} {b0 : Nat} {t e : TypeId} {v : Value} {d : DataW H} {ps : List MemPlace} (ht : P.underlying t = some (.slice e)) (hc : P.cellsOf e = 1)
    (hel : ∀ v d ps n, DataW.trod enc P w base (fun _ => true) held n e [v] = some (d, ps) → ∃ x, El v x ∧ wt x ≤ Rows.uptoBulk d)
    (hval : Value.okWide P w r b0 t v) (hd : DataW.Trod enc P w base (fun _ => true) held t v d ps) :
    ∃ A c, ∃ (l : List α) (V : List Value), v = .slice A l.length c ∧ l.length ≤ c ∧ c ≤ maxLen ∧ V.length = l.length ∧ Reads w 1 A l.length V ∧ (∀ k (h : k < l.length) (h' : k < V.length), El V[k] l[k]) ∧ (l.map wt).sum ≤ Rows.uptoBulk d := by
  obtain ⟨a0, len, cap, rfl⟩ := okWide_slice ht hval
  obtain ⟨fuel, hf⟩ := hd
  rcases open_slice1 ht hc hf with ⟨hcs, hx⟩ | ⟨a, len', cap', m, n, V, D, Pl, hcs, _, hl, hm, hmm, hx, hcell⟩
  · simp [Value.cells] at hcs
    obtain ⟨rfl, rfl, rfl⟩ := hcs
    exact ⟨none, 0, [], [], rfl, Nat.le_refl _, Nat.zero_le _, rfl, Reads.nil _ _ _, by simp, by simp⟩
  · simp [Value.cells] at hcs
    obtain ⟨rfl, rfl, rfl⟩ := hcs
    simp only [if_true] at hmm
    subst hmm
    simp only [Prod.mk.injEq] at hx
    obtain ⟨X, hX⟩ := choose_lt (α := α) (p := fun i x => El (V i) x ∧ wt x ≤ Rows.uptoBulk (D i)) (n := len) (fun i hi => hel _ _ _ _ (hcell i (by omega)).2)
    refine ⟨some a, m, (List.range len).map X, (List.range len).map V, by simp, by simpa using hl, hm, by simp, ⟨by simp, fun _ => ⟨a, rfl, fun j u hu => ?_⟩⟩, ?_, ?_⟩
    · have hj : j < len := by have := (List.getElem?_eq_some_iff.1 hu).1; simpa using this
      rw [(hcell j (by omega)).1]
      simpa [hj] using hu
    · intro k h h'
      have hk : k < len := by simpa using h
      simpa using (hX k hk).1
    · rw [hx.1, Rows.uptoBulk, List.map_map]
      have := bulkAll_range len D (fun i => wt (X i)) (fun i hi => (hX i hi).2)
      have e : ((List.range len).map (wt ∘ X)).sum = ((List.range len).map (fun i => wt (X i))).sum := rfl
      omega
end

/-- Numbers, bools as cells. -/
def ints (l : List Int) : List Value := l.map (Value.int .i64)
theorem ints_length (l : List Int) : (ints l).length = l.length := by simp [ints]
def bools (l : List Bool) : List Value := l.map Value.bool
theorem bools_length (l : List Bool) : (bools l).length = l.length := by simp [bools]
theorem Reads.int_at {w : World} {A : Option Addr} {l : List Int} {k : Nat} (h : Reads w 1 A l.length (ints l)) (hk : k < l.length) : ∃ ad, A = some ad ∧ w.cell? (ad.add k) = some (.int .i64 l[k]) := by
  obtain ⟨ad, u, hA, hu, hc⟩ := h.at_ hk
  have : (ints l)[k]? = some (.int .i64 l[k]) := by simp [ints, hk]
  rw [this] at hu
  injection hu with hu
  exact ⟨ad, hA, by rw [hc, hu]⟩
theorem Reads.bool_at {w : World} {A : Option Addr} {l : List Bool} {k : Nat} (h : Reads w 1 A l.length (bools l)) (hk : k < l.length) : ∃ ad, A = some ad ∧ w.cell? (ad.add k) = some (.bool l[k]) := by
  obtain ⟨ad, u, hA, hu, hc⟩ := h.at_ hk
  have : (bools l)[k]? = some (.bool l[k]) := by simp [bools, hk]
  rw [this] at hu
  injection hu with hu
  exact ⟨ad, hA, by rw [hc, hu]⟩

section
variable {H : Type} {enc : TypeId × Value → H} {P : Program} {w : World} {base : Nat} {held : Bool}
theorem sum_ge {α : Type} (l : List α) (f : α → Nat) (h : ∀ x ∈ l, 1 ≤ f x) : l.length ≤ (l.map f).sum := by
  induction l with
  | nil => simp
  | cons a l ih =>
    have h1 := ih (fun x hx => h x (List.mem_cons_of_mem _ hx))
    have h2 := h a (List.mem_cons_self ..)
    simp only [List.length_cons, List.map_cons, List.sum_cons]; omega
theorem open_intsR {r : Reach} {b0 : Nat} {t e : TypeId} {v : Value} {d : DataW H} {ps : List MemPlace} (ht : P.underlying t = some (.slice e)) (he : P.underlying e = some (.int .i64)) (hc : P.cellsOf e = 1)
    (hval : Value.okWide P w r b0 t v) (hd : DataW.Trod enc P w base (fun _ => true) held t v d ps) :
    ∃ A c, ∃ l : List Int, v = .slice A l.length c ∧ l.length ≤ c ∧ c ≤ maxLen ∧ Reads w 1 A l.length (ints l) ∧ (∀ n ∈ l, -9223372036854775808 ≤ n ∧ n ≤ 9223372036854775807) ∧ l.length ≤ Rows.uptoBulk d := by
  obtain ⟨A, c, l, V, h1, h2, h3, h4, h5, h6, h7⟩ := open_list1 (α := Int) (fun v n => v = .int .i64 n ∧ -9223372036854775808 ≤ n ∧ n ≤ 9223372036854775807) (fun _ => 1) ht hc (fun v d ps n h => by
    obtain ⟨m, hv, hx, hw⟩ := DataW.trod_int he h
    have hv' : v = .int .i64 m := by simpa using hv
    exact ⟨m, ⟨hv', bounds_i64 hw⟩, bulk_one d⟩) hval hd
  have hV : V = ints l := List.ext_getElem (by rw [h4, ints_length]) (fun k h h' => by rw [(h6 k (by omega) h).1]; simp [ints])
  subst hV
  refine ⟨A, c, l, h1, h2, h3, h5, fun n hn => ?_, Nat.le_trans (sum_ge l _ (by simp)) h7⟩
  obtain ⟨k, hk, rfl⟩ := List.getElem_of_mem hn
  exact (h6 k hk (by rw [ints_length]; exact hk)).2
theorem open_boolsR {r : Reach} {b0 : Nat} {t e : TypeId} {v : Value} {d : DataW H} {ps : List MemPlace} (ht : P.underlying t = some (.slice e)) (he : P.underlying e = some .bool) (hc : P.cellsOf e = 1)
    (hval : Value.okWide P w r b0 t v) (hd : DataW.Trod enc P w base (fun _ => true) held t v d ps) :
    ∃ A c, ∃ l : List Bool, v = .slice A l.length c ∧ l.length ≤ c ∧ c ≤ maxLen ∧ Reads w 1 A l.length (bools l) ∧ l.length ≤ Rows.uptoBulk d := by
  obtain ⟨A, c, l, V, h1, h2, h3, h4, h5, h6, h7⟩ := open_list1 (α := Bool) (fun v n => v = .bool n) (fun _ => 1) ht hc (fun v d ps n h => by
    obtain ⟨m, hv, hx⟩ := DataW.trod_bool he h
    exact ⟨m, by simpa using hv, bulk_one d⟩) hval hd
  have hV : V = bools l := List.ext_getElem (by rw [h4, bools_length]) (fun k h h' => by rw [h6 k (by omega) h]; simp [bools])
  subst hV
  exact ⟨A, c, l, h1, h2, h3, h5, Nat.le_trans (sum_ge l _ (by simp)) h7⟩
end
end Go.Proofs.YtjajoiahgfafgaaGreatDoor
end

/- Opening of arguments: slices of structs whose fields are one cell each. -/
section
namespace Go.Proofs.YtjajoiahgfafgaaGreatDoor
open Go.ChangeShapes Go.WideShapes Go.ChangeAt Go.RowKit Go.Deep

/-- Rows of cells, one behind the other from A on. -/
def IsRows (w : World) (size : Nat) (A : Option Addr) (rows : List (List Value)) : Prop :=
  ∀ k (h : k < rows.length), ∃ ad, A = some ad ∧ ∀ j u, rows[k][j]? = some u → w.cell? (ad.add (k * size + j)) = some u
theorem IsRows.below {w w' : World} {size : Nat} {A : Option Addr} {rows : List (List Value)} (h : IsRows w size A rows) (hb : Below w.heap.size w w') : IsRows w' size A rows := by
  intro k hk
  obtain ⟨ad, hA, hc⟩ := h k hk
  exact ⟨ad, hA, fun j u hu => (hb.cell (World.block_lt_of_cell? _ _ (hc j u hu))).trans (hc j u hu)⟩

/-- What the walk asks of a row: its first cell, and the others by their places. -/
theorem IsRows.at_ {w : World} {size : Nat} {A : Option Addr} {rows : List (List Value)} (h : IsRows w size A rows) {k : Nat} (hk : k < rows.length) :
    ∃ ad, A = some ad ∧ (∀ u, rows[k][0]? = some u → w.cell? (ad.add (k * size)) = some u) ∧ ∀ j u, rows[k][j + 1]? = some u → w.cell? ⟨(ad.add (k * size)).block, (ad.add (k * size)).off + (j + 1), none⟩ = some u := by
  obtain ⟨ad, hA, hc⟩ := h k hk
  refine ⟨ad, hA, fun u hu => hc 0 u hu, fun j u hu => ?_⟩
  have h1 := hc (j + 1) u hu
  rw [← add_of_add] at h1
  rw [← h1]
  conv => rhs; rw [Addr.add, if_neg (by omega)]

section
variable {H : Type} {enc : TypeId × Value → H} {P : Program} {w : World} {base : Nat} {held : Bool}
/-- A slice of structs among the arguments: what its elements read as, and its weight. -/
theorem open_rows {α : Type} [Inhabited α] (El : List Value → α → Prop) (wt : α → Nat) {r : Reach} {b0 : Nat} {t e : TypeId} {fs : Array Field} {v : Value} {d : DataW H} {ps : List MemPlace} (ht : P.underlying t = some (.slice e)) (he : P.underlying e = some (.struct fs))
    (hone : oneCellFields P fs = true) (hC : P.cellsOf e = fs.size)
    (hel : ∀ (vs : List Value) (ys : List (DataW H × List MemPlace)) n, vs.length = fs.size → ys.length = fs.size → (∀ (j : Nat) (f : Field), fs[j]? = some f → ∃ v y, vs[j]? = some v ∧ ys[j]? = some y ∧ DataW.trod enc P w base (fun _ => true) held n f.type [v] = some y) →
      ∃ x, El vs x ∧ wt x ≤ Rows.uptoBulk (DataW.agg (ys.map (·.1))))
    (hval : Value.okWide P w r b0 t v) (hd : DataW.Trod enc P w base (fun _ => true) held t v d ps) :
    ∃ A c, ∃ (l : List α) (V : List (List Value)), v = .slice A l.length c ∧ l.length ≤ c ∧ c ≤ maxLen ∧ V.length = l.length ∧ IsRows w fs.size A V ∧ (∀ k (h : k < l.length) (h' : k < V.length), El V[k] l[k]) ∧ (l.map wt).sum ≤ Rows.uptoBulk d := by
  obtain ⟨a0, len, cap, rfl⟩ := okWide_slice ht hval
  obtain ⟨fuel, hf⟩ := hd
  rcases open_slice ht hf with ⟨hcs, hx⟩ | ⟨a, len', cap', m, n, D, Pl, hcs, _, hl, hm, hmm, hx, hcell⟩
  · simp [Value.cells] at hcs
    obtain ⟨rfl, rfl, rfl⟩ := hcs
    exact ⟨none, 0, [], [], rfl, Nat.le_refl _, Nat.zero_le _, rfl, fun k h => absurd h (by simp), by simp, by simp⟩
  · simp [Value.cells] at hcs
    obtain ⟨rfl, rfl, rfl⟩ := hcs
    simp only [if_true] at hmm
    subst hmm
    simp only [Prod.mk.injEq] at hx
    obtain ⟨X, hX⟩ := choose_lt (α := List Value × α) (p := fun i x => x.1.length = fs.size ∧ (∀ j u, x.1[j]? = some u → w.cell? (a.add (i * fs.size + j)) = some u) ∧ El x.1 x.2 ∧ wt x.2 ≤ Rows.uptoBulk (D i)) (n := len) (fun i hi => by
      obtain ⟨cs', hc, ht'⟩ := hcell i (by omega)
      rw [hC] at hc
      obtain ⟨ys, n', hn', hy, hlen, hyl, hf⟩ := DataW.trod_struct he ht'
      obtain ⟨_, hcl, hat⟩ := World.cells?_some hc
      simp only [Prod.mk.injEq] at hy
      obtain ⟨x, hx1, hx2⟩ := hel cs' ys n' hcl hyl (fun j f hj => by
        obtain ⟨ho, hk⟩ := hone_of hone j f hj
        have hjl : j < fs.size := (Array.getElem?_eq_some_iff.1 hj).1
        have hv : cs'[j]? = some (cs'[j]'(by omega)) := List.getElem?_eq_getElem (by omega)
        have h1 := hf j f hj
        rw [ho, hk] at h1
        have hone' : (cs'.drop j).take 1 = [cs'[j]'(by omega)] := by
          rw [List.drop_eq_getElem_cons (by omega)]
          rfl
        rw [hone'] at h1
        have hys : ys[j]? = some (ys[j]'(by omega)) := List.getElem?_eq_getElem (by omega)
        exact ⟨_, _, hv, hys, h1.trans hys⟩)
      refine ⟨(cs', x), hcl, fun j u hu => ?_, hx1, ?_⟩
      · have hj : j < fs.size := by
          have h1 : j < cs'.length := (List.getElem?_eq_some_iff.1 hu).1
          omega
        rw [← Go.Deep.add_add, hat j hj]
        exact hu
      · rw [hy.1]; exact hx2)
    refine ⟨some a, m, (List.range len).map (fun i => (X i).2), (List.range len).map (fun i => (X i).1), by simp, by simpa using hl, hm, by simp, ?_, ?_, ?_⟩
    · intro k h
      have hk : k < len := by simpa using h
      refine ⟨a, rfl, fun j u hu => (hX k hk).2.1 j u ?_⟩
      simpa using hu
    · intro k h h'
      have hk : k < len := by simpa using h
      simpa using (hX k hk).2.2.1
    · rw [hx.1, Rows.uptoBulk, List.map_map]
      have := bulkAll_range len D (fun i => wt (X i).2) (fun i hi => (hX i hi).2.2.2)
      have e : ((List.range len).map (wt ∘ fun i => (X i).2)).sum = ((List.range len).map (fun i => wt (X i).2)).sum := rfl
      omega
end
end Go.Proofs.YtjajoiahgfafgaaGreatDoor
end

/- slices.BinarySearchFunc over nodes. -/
section
set_option linter.unusedVariables false
namespace Go.Proofs.YtjajoiahgfafgaaGreatDoor
open Go.RowKit Plain

/-- a node of a row -/
theorem nodes_at {w : World} {A : Option Addr} {t : List Nd} (h : IsRows w 4 A (t.map ndV)) {i : Nat} (hi : i < t.length) : ∃ ad, A = some ad ∧ ∀ j u, (ndV (t.getD i default))[j]? = some u → w.cell? (ad.add (i * 4 + j)) = some u := by
  obtain ⟨ad, e, hc⟩ := h i (by simpa using hi)
  refine ⟨ad, e, fun j u hu => hc j u ?_⟩
  rw [List.getElem_map]
  rw [List.getD_eq_getElem?_getD, List.getElem?_eq_getElem hi, Option.getD_some] at hu
  exact hu
/-- its four cells, as the walk loads them -/
theorem node_cells {w : World} {A : Option Addr} {t : List Nd} (h : IsRows w 4 A (t.map ndV)) {i : Nat} (hi : i < t.length) : ∃ ad, A = some ad ∧ w.cell? (ad.add (i * 4)) = some (.string ⟨(t.getD i default).path.toArray⟩) ∧
    w.cell? ⟨(ad.add (i * 4)).block, (ad.add (i * 4)).off + 1, none⟩ = some (.int .i64 (t.getD i default).kind) ∧ w.cell? ⟨(ad.add (i * 4)).block, (ad.add (i * 4)).off + 2, none⟩ = some (.string ⟨(t.getD i default).data.toArray⟩) ∧
    w.cell? ⟨(ad.add (i * 4)).block, (ad.add (i * 4)).off + 3, none⟩ = some (.int .i64 (t.getD i default).mode) := by
  obtain ⟨ad, e, hc⟩ := nodes_at h hi
  have key : ∀ j u, j ≠ 0 → (ndV (t.getD i default))[j]? = some u → w.cell? ⟨(ad.add (i * 4)).block, (ad.add (i * 4)).off + j, none⟩ = some u := fun j u hj hu => by
    have := hc j u hu
    rw [← add_of_add] at this
    conv at this => lhs; rw [Addr.add, if_neg hj]
    exact this
  exact ⟨ad, e, hc 0 _ rfl, key 1 _ (by omega) rfl, key 2 _ (by omega) rfl, key 3 _ (by omega) rfl⟩
/-- what is told of a search -/
def Found (t : List Nd) (s : List UInt8) (lo : Nat) (b : Bool) : Prop := lo ≤ t.length ∧ (∀ j, j < lo → orderM (t.getD j default).path s < 0) ∧ (∀ j, lo ≤ j → j < t.length → 0 ≤ orderM (t.getD j default).path s) ∧ b = (decide (lo < t.length) && (orderM (t.getD lo default).path s == 0))

set_option maxHeartbeats 2000000 in
set_option maxRecDepth 100000 in
theorem search_any (t : List Nd) (A : Option Addr) (c : Nat) (s : List UInt8) (w : World) (hR : IsRows w 4 A (t.map ndV)) (hs : Srt t) (ht : t.length ≤ 1000) (hp : ∀ n ∈ t, n.path.length ≤ 9223372036854775807) (hs2 : s.length ≤ 9223372036854775807) :
    Calls Tryz.prog 127 #[.slice A t.length c, .string ⟨s.toArray⟩, .func (.func 128) #[] #[]] w fun e w' => ∃ lo b, e = .returned (.tuple #[.int .i64 (lo : Nat), .bool b]) ∧ Found t s lo b ∧ Below w.heap.size w w' := by
  have HPL := Lib.hid (fun (n : Nd) (h : n ∈ t) W => place1_any n s W (hp n h) hs2)
  have HR := Lib.hid hR
  have HS := Lib.hid hs
  clear hR hs hp
  go_enter Tryz.func127, Tryz.ntmps127
  go_wp2_with (fail)
  go_loopw [9, 10] (fun t9 t10 W => ∃ lo hi : Nat, lo ≤ hi ∧ hi ≤ t.length ∧ t9 = .int .i64 (lo : Nat) ∧ t10 = .int .i64 (hi : Nat) ∧ Hid (∀ j, j < lo → orderM (t.getD j default).path s < 0) ∧ Hid (∀ j, hi ≤ j → j < t.length → 0 ≤ orderM (t.getD j default).path s) ∧ Hid (Below w.heap.size w W)) (fun t9 t10 _ => (intOf t10).toNat - (intOf t9).toNat)
  case atStart => exact ⟨0, t.length, by omega, by omega, rfl, rfl, Lib.hid (fun j h => by omega), Lib.hid (fun j h1 h2 => by omega), Lib.hid (Below.refl _ _)⟩
  case round =>
    obtain ⟨lo, hi, hle, hhi, rfl, rfl, H1, H2, HB⟩ := hrel
    by_cases hlt : lo < hi
    · have hlt' : (lo : Int) < hi := by omega
      have h0 : (0 : Int) ≤ lo := by omega
      obtain ⟨h, hh⟩ : ∃ h : Nat, h = (lo + hi) / 2 := ⟨_, rfl⟩
      have hh1 : lo ≤ h ∧ h < hi := by omega
      obtain ⟨ad, rfl, c0, c1, c2, c3⟩ := node_cells (HR.out.below HB.out) (i := h) (by omega)
      have hmem : t.getD h default ∈ t := by rw [List.getD_eq_getElem?_getD, List.getElem?_eq_getElem (by omega : h < t.length), Option.getD_some]; exact List.getElem_mem _
      have HP1 := Lib.hid (HPL.out _ hmem)
      obtain ⟨nd, HND⟩ : ∃ nd : Nd, Hid (nd = t.getD h default) := ⟨_, Lib.hid rfl⟩
      rw [← HND.out] at HP1 c0 c1 c2 c3
      have he2 : ((lo : Int) + hi) / 2 = (h : Int) := by omega
      have hh0 : (0 : Int) ≤ h := by omega
      have hhl : (h : Int) < t.length := by omega
      have HHH := Lib.hid (And.intro hh hh1)
      clear hh hmem
      by_cases hneg : orderM nd.path s < 0
      · have hd : decide (orderM nd.path s < 0) = true := decide_eq_true hneg
        go_wp2_with (go_at_call 128; refine (HP1.out _).mono ?_; rintro e w1 ⟨rfl, hb1⟩)
        go_roundw
        case rel => exact ⟨h + 1, hi, by omega, hhi, by go_num, rfl, Lib.hid (search_less HS.out (by omega) (by rw [← HND.out]; exact hneg)), H2, Lib.hid (HB.out.trans (hb1.mono HB.out.size))⟩
        case measure => simp [intOf]; omega
      · have hd : decide (orderM nd.path s < 0) = false := decide_eq_false hneg
        go_wp2_with (go_at_call 128; refine (HP1.out _).mono ?_; rintro e w1 ⟨rfl, hb1⟩)
        go_roundw
        case rel => exact ⟨lo, h, by omega, by omega, rfl, rfl, H1, Lib.hid (search_more HS.out (by rw [← HND.out]; omega)), Lib.hid (HB.out.trans (hb1.mono HB.out.size))⟩
        case measure => simp [intOf]; omega
    · have he : lo = hi := by omega
      subst he
      by_cases hin : lo < t.length
      · have hin' : (lo : Int) < t.length := by omega
        have h0 : (0 : Int) ≤ lo := by omega
        obtain ⟨ad, rfl, c0, c1, c2, c3⟩ := node_cells (HR.out.below HB.out) (i := lo) hin
        have hmem : t.getD lo default ∈ t := by rw [List.getD_eq_getElem?_getD, List.getElem?_eq_getElem hin, Option.getD_some]; exact List.getElem_mem _
        have HP1 := Lib.hid (HPL.out _ hmem)
        have HFD : Hid (Found t s lo (decide (lo < t.length) && (orderM (t.getD lo default).path s == 0))) := Lib.hid ⟨hhi, H1.out, H2.out, rfl⟩
        rw [decide_eq_true hin, Bool.true_and] at HFD
        obtain ⟨nd, HND⟩ : ∃ nd : Nd, Hid (nd = t.getD lo default) := ⟨_, Lib.hid rfl⟩
        rw [← HND.out] at HP1 HFD c0 c1 c2 c3
        clear hmem
        go_wp2_with (go_at_call 128; refine (HP1.out _).mono ?_; rintro e w1 ⟨rfl, hb1⟩)
        go_ret2
        exact ⟨lo, (orderM nd.path s == 0), rfl, HFD.out, HB.out.trans (hb1.mono HB.out.size)⟩
      · have hin' : ¬ (lo : Int) < t.length := by omega
        have HFD : Hid (Found t s lo (decide (lo < t.length) && (orderM (t.getD lo default).path s == 0))) := Lib.hid ⟨hhi, H1.out, H2.out, rfl⟩
        rw [decide_eq_false hin, Bool.false_and] at HFD
        go_wp2_with (fail)
        refine bodyPost_ret (by simp [results, Tryz.results127, go_sem]; rfl) rfl ?_
        first
          | exact ⟨lo, false, rfl, HFD.out, HB.out⟩
          | exact ⟨lo, .inl ⟨rfl, HFD.out, HB.out⟩⟩
          | exact .inl ⟨lo, rfl, HFD.out, HB.out⟩
end Go.Proofs.YtjajoiahgfafgaaGreatDoor
end

/- tree's place and dir. -/
section
set_option linter.unusedVariables false
namespace Go.Proofs.YtjajoiahgfafgaaGreatDoor
open Go.RowKit Plain

def FoundV (t : List Nd) (s : List UInt8) (v : Value) : Prop := ∃ (lo : Nat) (b : Bool), v = .tuple #[.int .i64 (lo : Nat), .bool b] ∧ Found t s lo b

set_option maxHeartbeats 1000000 in
set_option maxRecDepth 100000 in
theorem place_any (t : List Nd) (A : Option Addr) (c : Nat) (s : List UInt8) (w : World) (hR : IsRows w 4 A (t.map ndV)) (hs : Srt t) (ht : t.length ≤ 1000) (hp : ∀ n ∈ t, n.path.length ≤ 9223372036854775807) (hs2 : s.length ≤ 9223372036854775807) :
    Calls Tryz.prog 98 #[.slice A t.length c, .string ⟨s.toArray⟩] w fun e w' => ∃ v, e = .returned v ∧ FoundV t s v ∧ Below w.heap.size w w' := by
  have HS := Lib.hid (search_any t A c s w hR hs ht hp hs2)
  clear hR hs hp
  go_enter Tryz.func98, Tryz.ntmps98
  go_wp2_with (go_at_call 127; refine HS.out.mono ?_; rintro e w1 ⟨lo, b, rfl, hf, hb⟩; have HF := Lib.hid hf; have HB := Lib.hid hb; clear hf hb)
  go_ret2
  exact ⟨_, rfl, ⟨lo, b, rfl, HF.out⟩, HB.out⟩

set_option maxHeartbeats 1000000 in
set_option maxRecDepth 100000 in
theorem dir_any (t : List Nd) (A : Option Addr) (c : Nat) (s : List UInt8) (w : World) (hR : IsRows w 4 A (t.map ndV)) (hs : Srt t) (ht : t.length ≤ 1000) (hp : ∀ n ∈ t, n.path.length ≤ 9223372036854775807) (hs2 : s.length ≤ 9223372036854775807) :
    Calls Tryz.prog 74 #[.slice A t.length c, .string ⟨s.toArray⟩] w (Ret w (.bool (dirN t s))) := by
  have HPL := Lib.hid (place_any t A c s w hR hs ht hp hs2)
  have HR := Lib.hid hR
  have HSR := Lib.hid hs
  clear hR hs hp
  go_enter Tryz.func74, Tryz.ntmps74
  cases s with
  | nil =>
    go_wp2_with (go_at_call 98; refine HPL.out.mono ?_; rintro e w1 ⟨v, rfl, ⟨lo, b, rfl, hf⟩, hb⟩; have HF := Lib.hid hf; have HB := Lib.hid hb; clear hf hb)
    go_ret
    exact ⟨rfl, HB.out⟩
  | cons x r =>
    go_upto_region 2 with (go_at_call 98; refine HPL.out.mono ?_; rintro e w1 ⟨v, rfl, ⟨lo, b, rfl, hf⟩, hb⟩; have HF := Lib.hid hf; have HB := Lib.hid hb; clear hf hb)
    have hfind := search_end (s := x :: r) HSR.out HF.out.2.1 HF.out.2.2.1
    have hb := HF.out.2.2.2
    cases b with
    | false =>
      have hn : findN t (x :: r) = none := by
        rw [hfind, if_neg]
        rintro ⟨h1, h2⟩
        rw [decide_eq_true h1, h2] at hb
        cases hb
      have hd : dirN t (x :: r) = false := by unfold dirN; rw [hn]; rfl
      have HD := Lib.hid hd
      clear hfind hb hd
      go_wp2_with (fail)
      go_ret
      exact ⟨by rw [HD.out]; first | rfl | simp, HB.out⟩
    | true =>
      have hb' := hb.symm
      rw [Bool.and_eq_true, decide_eq_true_eq, beq_iff_eq] at hb'
      have hlt : lo < t.length := hb'.1
      rw [if_pos hb'] at hfind
      obtain ⟨ad, rfl, c0, c1, c2, c3⟩ := node_cells (HR.out.below HB.out) (i := lo) hlt
      have hd : dirN t (x :: r) = ((t.getD lo default).kind == 2) := by unfold dirN; rw [hfind]; rfl
      have HD := Lib.hid hd
      have hlt' : (lo : Int) < t.length := by omega
      have h0 : (0 : Int) ≤ lo := by omega
      clear hfind hb hb' hd
      generalize t.getD lo default = nd at *
      go_wp2_with (fail)
      go_ret
      exact ⟨by rw [HD.out]; first | rfl | simp, HB.out⟩
end Go.Proofs.YtjajoiahgfafgaaGreatDoor
end

/- Loads of a struct, and of a cell, in a region that draws its order. -/
section
namespace Go.Proofs.YtjajoiahgfafgaaGreatDoor
open Go.RowKit

/-- A load of a whole struct, and of one cell, in a region that draws its order, whose calls keep old memory. -/
theorem quiet_load_row {P : Program} {w : World} {o : Oper} {a : Act} {K : Act → Prop} (ty : TypeId) (x : Operand) (ho : o.op = .load ty x)
    (g : Nat) (hx : a.eval x = .pointer (some ⟨g, 0, none⟩)) (t : TypeId) (cs : Array Value) (fr : Nat × Nat) (d : TypeDesc) (hg : w.heap[g]? = some (.cells cs t fr))
    (hu : P.underlying ty = some d) (hd : (match d with | .struct _ | .array _ _ => true | _ => false) = true) (hi : (P.info? ty).map (·.size) = some cs.size)
    (h : K (a.put o.dst (.agg cs))) : o.quiet P a (fun W => Below w.heap.size w W) K := by
  refine ⟨.agg cs, fun W hW => ?_, h⟩
  have hgW : W.heap[g]? = some (.cells cs t fr) := by rw [hW.block g (Array.getElem?_eq_some_iff.1 hg).1]; exact hg
  unfold Oper.quietAt execOp
  simp only [ho, hx, Instr.loadAt, Instr.sureAddr, Sem.run_bind, Sem.run_pure, Result.andThen_ok, run_loadVar_row W g t ty cs fr d hgW hu hd hi]
  exact ⟨rfl, rfl⟩
theorem quiet_load_cell {P : Program} {w : World} {o : Oper} {a : Act} {K : Act → Prop} (ty : TypeId) (x : Operand) (ho : o.op = .load ty x)
    (p : Addr) (hx : a.eval x = .pointer (some p)) (v : Value) (d : TypeDesc) (hc : w.cell? p = some v)
    (hu : P.underlying ty = some d) (hd : (match d with | .struct _ | .array _ _ => true | _ => false) = false)
    (h : K (a.put o.dst v)) : o.quiet P a (fun W => Below w.heap.size w W) K := by
  refine ⟨v, fun W hW => ?_, h⟩
  have hcW : W.cell? p = some v := by rw [hW.cell (World.block_lt_of_cell? _ _ hc)]; exact hc
  have hagg : (isAgg ty).run P W = .ok false W := by
    unfold isAgg
    rw [Sem.run_bind, run_underlying hu W]
    cases d <;> simp_all
  unfold Oper.quietAt execOp
  simp only [ho, hx, Instr.loadAt, Instr.sureAddr, Sem.run_bind, Sem.run_pure, Result.andThen_ok, loadVar, hagg]
  simp [go_sem, hcW, Oper.quietUpon]
/-- A load of a part of a row. -/
theorem quiet_load_mid {P : Program} {w : World} {o : Oper} {a : Act} {K : Act → Prop} (ty : TypeId) (x : Operand) (ho : o.op = .load ty x)
    (b f : Nat) (hx : a.eval x = .pointer (some ⟨b, f, none⟩)) (cs : List Value) (d : TypeDesc) (hc : w.rangeAt b f cs) (hb : b < w.heap.size)
    (hu : P.underlying ty = some d) (hd : d.isRow = true) (hi : (P.info? ty).map (·.size) = some cs.length)
    (h : K (a.put o.dst (.agg cs.toArray))) : o.quiet P a (fun W => Below w.heap.size w W) K := by
  refine ⟨.agg cs.toArray, fun W hW => ?_, h⟩
  have hcW : W.rangeAt b f cs := fun j v hv => by rw [hW.cell hb]; exact hc j v hv
  unfold Oper.quietAt execOp
  simp only [ho, hx, Instr.loadAt, Instr.sureAddr, Sem.run_bind, Sem.run_pure, Result.andThen_ok, run_loadVar_mid W b f ty cs d hcW hu hd hi]
  exact ⟨rfl, rfl⟩
end Go.Proofs.YtjajoiahgfafgaaGreatDoor
end

/- A load of a struct at whatever address, in a region that draws its order. -/
section
set_option linter.unusedVariables false
namespace Go.Proofs.YtjajoiahgfafgaaGreatDoor
open Go.RowKit

theorem run_loadVar_at {P : Program} (w : World) (a : Addr) (ty : TypeId) (cs : List Value) (d : TypeDesc) (hc : ∀ j v, cs[j]? = some v → w.cell? (a.add j) = some v)
    (hu : P.underlying ty = some d) (hd : d.isRow = true) (hi : (P.info? ty).map (·.size) = some cs.length) :
    (loadVar ty a).run P w = .ok (.agg cs.toArray) w := by
  have hl : (loadCells a cs.length).run P w = .ok cs.toArray w := run_loadCells_list (P := P) w a cs hc
  cases hq : P.info? ty with
  | none => simp [hq] at hi
  | some i =>
    have hs : i.size = cs.length := by simpa [hq] using hi
    have hagg : (isAgg ty).run P w = .ok true w := by
      unfold isAgg
      rw [Sem.run_bind, run_underlying hu w]
      cases d <;> simp_all
    simp [loadVar, Sem.run_bind, hagg, sizeOf, typeInfo, hq, hs, hl]
theorem quiet_load_at {P : Program} {w : World} {o : Oper} {a : Act} {K : Act → Prop} (ty : TypeId) (x : Operand) (ho : o.op = .load ty x)
    (p : Addr) (hx : a.eval x = .pointer (some p)) (cs : List Value) (d : TypeDesc) (hc : ∀ j v, cs[j]? = some v → w.cell? (p.add j) = some v)
    (hu : P.underlying ty = some d) (hd : d.isRow = true) (hi : (P.info? ty).map (·.size) = some cs.length)
    (h : K (a.put o.dst (.agg cs.toArray))) : o.quiet P a (fun W => Below w.heap.size w W) K := by
  refine ⟨.agg cs.toArray, fun W hW => ?_, h⟩
  have hcW : ∀ j v, cs[j]? = some v → W.cell? (p.add j) = some v := fun j v hv => (hW.cell (World.block_lt_of_cell? _ _ (hc j v hv))).trans (hc j v hv)
  unfold Oper.quietAt execOp
  simp only [ho, hx, Instr.loadAt, Instr.sureAddr, Sem.run_bind, Sem.run_pure, Result.andThen_ok, run_loadVar_at W p ty cs d hcW hu hd hi]
  exact ⟨rfl, rfl⟩
theorem pair_cells {w : World} {p : Addr} {u v : Value} (h0 : w.cell? p = some u) (h1 : w.cell? ⟨p.block, p.off + 1, none⟩ = some v) : ∀ j x, [u, v][j]? = some x → w.cell? (p.add j) = some x := by
  intro j x hx
  match j, hx with
  | 0, hx => simp at hx; rw [← hx]; exact h0
  | 1, hx => simp at hx; rw [← hx]; exact h1
  | j + 2, hx => simp at hx
end Go.Proofs.YtjajoiahgfafgaaGreatDoor
end

/- tree.Check. -/
section
set_option linter.unusedVariables false
namespace Go.Proofs.YtjajoiahgfafgaaGreatDoor
open Go.RowKit Plain

theorem rows_take {w : World} {A : Option Addr} {t : List Nd} (h : IsRows w 4 A (t.map ndV)) (i : Nat) : IsRows w 4 A ((t.take i).map ndV) := by
  intro k hk
  have hk' : k < i ∧ k < t.length := by simp only [List.length_map, List.length_take] at hk; omega
  obtain ⟨ad, e, hc⟩ := h k (by simpa using hk'.2)
  refine ⟨ad, e, fun j u hu => hc j u ?_⟩
  simpa using hu
theorem beforeN_take {t : List Nd} {i j : Nat} (h : j < i) : beforeN (t.take i) j = beforeN t j := by
  cases j with
  | zero => rfl
  | succ j => show decide _ = decide _; rw [getD_take h, getD_take (by omega)]
theorem srt_ahead {t : List Nd} {i : Nat} (h : ∀ j, j < i → nodeOK (t.take j) t j = true) : Srt (t.take i) := by
  refine srt_of fun j hj => ?_
  have hj' : j < i := by rw [List.length_take] at hj; omega
  rw [beforeN_take hj']
  have := h j hj'
  unfold nodeOK at this
  simp only [Bool.and_eq_true] at this
  exact this.1.2
theorem mem_getD {t : List Nd} {i : Nat} (h : i < t.length) : t.getD i default ∈ t := by
  rw [List.getD_eq_getElem?_getD, List.getElem?_eq_getElem h, Option.getD_some]; exact List.getElem_mem _
theorem join_dropLast_le : ∀ l : List (List UInt8), (joinS l.dropLast).length ≤ (joinS l).length
  | [] => Nat.le_refl _
  | [x] => by simp [joinS]
  | x :: y :: r => by
    have ih := join_dropLast_le (y :: r)
    rw [List.dropLast_cons_of_ne_nil (by simp)]
    cases h : (y :: r).dropLast with
    | nil => simp only [joinS, List.length_append]; omega
    | cons a b =>
      rw [h] at ih
      simp only [joinS, List.length_append, List.length_cons] at ih ⊢
      omega
theorem parentM_le (s : List UInt8) : (parentM s).length ≤ s.length := by
  unfold parentM
  split
  · have := join_dropLast_le (parts s)
    rwa [join_parts] at this
  · simp
theorem info_node : (Tryz.prog.info? 41).map (·.size) = some 4 := by kernel_rfl
def okE (b : Bool) : Int := if b then 0 else 60

set_option maxHeartbeats 4000000 in
set_option maxRecDepth 100000 in
theorem tcheck_any (t : List Nd) (A : Option Addr) (c : Nat) (m : Int) (w : World) (hL : Laid w m) (hR : IsRows w 4 A (t.map ndV)) (hc : t.length ≤ c) (hlen : t.length ≤ 9223372036854775807) (hp : ∀ n ∈ t, n.path.length ≤ 9223372036854775807 ∧ n.data.length ≤ 9223372036854775807) :
    Calls Tryz.prog 44 #[.slice A t.length c] w (Ret w (.int .i64 (okE (treeOK t)))) := by
  by_cases hbig : 1000 < t.length
  · have hb : decide ((1000 : Int) < (t.length : Int)) = true := by rw [decide_eq_true_eq]; omega
    have HE := Lib.hid (show treeOK t = false from treeOK_long hbig)
    rw [HE.out]
    clear hbig
    go_enter Tryz.func44, Tryz.ntmps44
    go_wp2_with (fail)
    go_ret
    exact ⟨rfl, Below.refl _ _⟩
  have hsm : t.length ≤ 1000 := by omega
  have hb : decide ((1000 : Int) < (t.length : Int)) = false := by rw [decide_eq_false_iff_not]; omega
  have HRES : Hid (restOK (fun i => nodeOK (t.take i) t i) 0 t.length = treeOK t) := Lib.hid (treeOK_own hsm).symm
  generalize treeOK t = res at *
  have HR := Lib.hid (fun W (h : Below w.heap.size w W) => hR.below h)
  have HPATH := Lib.hid (fun s W (h : Below w.heap.size w W) => Path_any s W (hL.below h).tabs)
  have HPAR := Lib.hid (fun s W (h : Below w.heap.size w W) (hs : s.length ≤ 9223372036854775807) => Parent_any s W (hL.below h).tabs hs)
  have HDIR := Lib.hid (fun i s W (h : Below w.heap.size w W) (hi : i ≤ t.length) (hs : Srt (t.take i)) (hs2 : s.length ≤ 9223372036854775807) =>
    show Calls Tryz.prog 74 #[.slice A i c, .string ⟨s.toArray⟩] W (Ret W (.bool (dirN (t.take i) s))) by
      have := dir_any (t.take i) A c s W (rows_take (hR.below h) i) hs (by rw [List.length_take]; omega) (fun n hn => (hp n (List.mem_of_mem_take hn)).1) hs2
      rw [List.length_take, Nat.min_eq_left hi] at this
      exact this)
  have HP := Lib.hid hp
  have HSZ := Lib.hid info_node
  clear hR hL hp
  go_enter Tryz.func44, Tryz.ntmps44
  go_wp2_with (fail)
  go_loopw [10] (fun t10 W => ∃ (i : Nat), i ≤ t.length ∧ t10 = .int .i64 i ∧ Hid (restOK (fun i => nodeOK (t.take i) t i) i t.length = res) ∧ Hid (∀ j, j < i → nodeOK (t.take j) t j = true) ∧ Hid (Below w.heap.size w W)) (fun t10 _ => t.length - (intOf t10).toNat)
  case atStart => exact ⟨0, by omega, rfl, HRES, Lib.hid (fun j h => by omega), Lib.hid (Below.refl _ _)⟩
  case round =>
    clear HRES
    obtain ⟨i, hi, rfl, HE, HA, HB⟩ := hrel
    have i0 : (0 : Int) ≤ i := by omega
    have e1 : IntKind.i64.wrap ((i : Int) + 1) = (i : Int) + 1 := IntWalk.i64_in _ (by omega)
    by_cases hlt : i < t.length
    · have i1 : (i : Int) < t.length := by omega
      have i2 : (i : Int) ≤ c := by omega
      obtain ⟨ad, rfl, c0, c1, c2, c3⟩ := node_cells (HR.out _ HB.out) hlt
      have hpl := HP.out _ (mem_getD hlt)
      have hat := restOK_at (f := fun i => nodeOK (t.take i) t i) hlt
      rw [HE.out] at hat
      have HN : Hid (nodeOK (t.take i) t i = (pathOK (t.getD i default).path && rightN (t.getD i default) && beforeN t i && dirN (t.take i) (parentM (t.getD i default).path))) := Lib.hid rfl
      obtain ⟨nd, HND⟩ : ∃ nd : Nd, Hid (nd = t.getD i default) := ⟨_, Lib.hid rfl⟩
      rw [← HND.out] at HN hpl c0 c1 c2 c3
      have HPL := Lib.hid hpl
      have HAT := Lib.hid hat
      clear hat hpl
      obtain ⟨wb, hwb⟩ : ∃ wb, wr.alloc (Obj.cells #[Value.string ⟨nd.path.toArray⟩, Value.int .i64 nd.kind, .string ⟨nd.data.toArray⟩, .int .i64 nd.mode] 41) = wb := ⟨_, rfl⟩
      have HWB := Lib.hid hwb
      have HBA := Lib.hid (show Below w.heap.size w wb by rw [← hwb]; exact HB.out.alloc HB.out.size _)
      have HROW := Lib.hid (show wb.heap[wr.heap.size]? = some (.cells #[Value.string ⟨nd.path.toArray⟩, Value.int .i64 nd.kind, .string ⟨nd.data.toArray⟩, .int .i64 nd.mode] 41 (0, 0)) by rw [← hwb]; exact heap_alloc_new _ _)
      have HC0 := Lib.hid (show wb.cell? ⟨wr.heap.size, 0, none⟩ = some (.string ⟨nd.path.toArray⟩) by rw [← hwb]; simp [go_sem])
      have HRIGHT := Lib.hid (fun W => right_any nd W HPL.out.2)
      clear hwb
      go_upto_region 6 with (fail)
      rw [HWB.out]
      clear c0 c1 c2 c3
      cases hpa : pathOK nd.path with
      | false =>
        have HP1 := Lib.hid (fun W h => (hpa ▸ HPATH.out nd.path W h : Calls Tryz.prog 71 #[.string ⟨nd.path.toArray⟩] W (Ret W (.bool false))))
        have HRF := Lib.hid (show res = false by rw [HAT.out, HN.out, hpa]; rfl)
        clear hpa
        refine wp_region_below (by kernel_rfl) (by kernel_rfl) ?_
        repeat first
          | (go_big_quiet_want; refine quiet_load_cell 9 _ rfl _ rfl _ _ HC0.out Tryz.underlying9 rfl ?_; simp only [Act.put, List.setIfInBounds_toArray, List.set_cons_succ, List.set_cons_zero]; go_big_quiet_on)
          | go_big_quiet_step ((intro hW; go_at_call 71; exact Ret.quiet hW (HP1.out _ (HBA.out.trans (hW.mono HBA.out.size)))))
        refine wpQuiet_nil ?_
        intro W2 hW2
        go_wp2_with (fail)
        go_ret
        exact ⟨by rw [HRF.out]; rfl, HBA.out.trans (hW2.mono HBA.out.size)⟩
      | true =>
      have HP1 := Lib.hid (fun W h => (hpa ▸ HPATH.out nd.path W h : Calls Tryz.prog 71 #[.string ⟨nd.path.toArray⟩] W (Ret W (.bool true))))
      rw [hpa, Bool.true_and] at HN
      clear hpa
      cases hri : rightN nd with
      | false =>
        have HP2 := Lib.hid (fun W => (hri ▸ HRIGHT.out W : Calls Tryz.prog 72 #[.agg (ndV nd).toArray] W (Ret W (.bool false))))
        have HRF := Lib.hid (show res = false by rw [HAT.out, HN.out, hri]; rfl)
        clear hri
        refine wp_region_below (by kernel_rfl) (by kernel_rfl) ?_
        repeat first
          | (go_big_quiet_want; refine quiet_load_cell 9 _ rfl _ rfl _ _ HC0.out Tryz.underlying9 rfl ?_; simp only [Act.put, List.setIfInBounds_toArray, List.set_cons_succ, List.set_cons_zero]; go_big_quiet_on)
          | (go_big_quiet_want; refine quiet_load_row 41 _ rfl _ rfl _ _ _ _ HROW.out Tryz.underlying41 rfl HSZ.out ?_; simp only [Act.put, List.setIfInBounds_toArray, List.set_cons_succ, List.set_cons_zero]; go_big_quiet_on)
          | go_big_quiet_step ((intro hW; first | (go_at_call 71; exact Ret.quiet hW (HP1.out _ (HBA.out.trans (hW.mono HBA.out.size)))) | (go_at_call 72; exact Ret.quiet hW (HP2.out _))))
        refine wpQuiet_nil ?_
        intro W2 hW2
        go_wp2_with (fail)
        go_ret
        exact ⟨by rw [HRF.out]; rfl, HBA.out.trans (hW2.mono HBA.out.size)⟩
      | true =>
      have HP2 := Lib.hid (fun W => (hri ▸ HRIGHT.out W : Calls Tryz.prog 72 #[.agg (ndV nd).toArray] W (Ret W (.bool true))))
      rw [hri, Bool.true_and] at HN
      clear hri
      cases i with
      | zero =>
        have HSRT := Lib.hid (srt_ahead HA.out)
        have hpp : (parentM nd.path).length ≤ 9223372036854775807 := Nat.le_trans (parentM_le nd.path) HPL.out.1
        have HPP := Lib.hid hpp
        clear hpp
        cases hdi : dirN (t.take (0)) (parentM nd.path) with
        | false =>
          have HP5 := Lib.hid (fun W h => (hdi ▸ HDIR.out (0) (parentM nd.path) W h (by omega) HSRT.out HPP.out : Calls Tryz.prog 74 #[.slice (some ad) (0) c, .string ⟨(parentM nd.path).toArray⟩] W (Ret W (.bool false))))
          have HRF := Lib.hid (show res = false by rw [HAT.out, HN.out, show beforeN t 0 = true from rfl, Bool.true_and, hdi]; rfl)
          clear hdi
          refine wp_region_below (by kernel_rfl) (by kernel_rfl) ?_
          repeat first
            | (go_big_quiet_want; refine quiet_load_cell 9 _ rfl _ rfl _ _ HC0.out Tryz.underlying9 rfl ?_; simp only [Act.put, List.setIfInBounds_toArray, List.set_cons_succ, List.set_cons_zero]; go_big_quiet_on)
            | (go_big_quiet_want; refine quiet_load_row 41 _ rfl _ rfl _ _ _ _ HROW.out Tryz.underlying41 rfl HSZ.out ?_; simp only [Act.put, List.setIfInBounds_toArray, List.set_cons_succ, List.set_cons_zero]; go_big_quiet_on)
            | go_big_quiet_step ((intro hW; first | (go_at_call 71; exact Ret.quiet hW (HP1.out _ (HBA.out.trans (hW.mono HBA.out.size)))) | (go_at_call 72; exact Ret.quiet hW (HP2.out _)) | (go_at_call 75; exact Ret.quiet hW (HPAR.out nd.path _ (HBA.out.trans (hW.mono HBA.out.size)) HPL.out.1)) | (go_at_call 74; exact Ret.quiet hW (HP5.out _ (HBA.out.trans (hW.mono HBA.out.size))))))
          refine wpQuiet_nil ?_
          intro W2 hW2
          go_wp2_with (fail)
          go_ret
          exact ⟨by rw [HRF.out]; rfl, HBA.out.trans (hW2.mono HBA.out.size)⟩
        | true =>
          have HP5 := Lib.hid (fun W h => (hdi ▸ HDIR.out (0) (parentM nd.path) W h (by omega) HSRT.out HPP.out : Calls Tryz.prog 74 #[.slice (some ad) (0) c, .string ⟨(parentM nd.path).toArray⟩] W (Ret W (.bool true))))
          have HNT : nodeOK (t.take (0)) t (0) = true := by rw [HN.out, show beforeN t 0 = true from rfl, Bool.true_and, hdi]
          have HRF := Lib.hid (show restOK (fun i => nodeOK (t.take i) t i) (0 + 1) t.length = res by rw [HAT.out, HNT, Bool.true_and])
          have HAL := Lib.hid (show ∀ j, j < 0 + 1 → nodeOK (t.take j) t j = true from fun j hj => by
            by_cases e : j = 0
            · rw [e]; exact HNT
            · exact HA.out j (by omega))
          clear hdi HNT
          refine wp_region_below (by kernel_rfl) (by kernel_rfl) ?_
          repeat first
            | (go_big_quiet_want; refine quiet_load_cell 9 _ rfl _ rfl _ _ HC0.out Tryz.underlying9 rfl ?_; simp only [Act.put, List.setIfInBounds_toArray, List.set_cons_succ, List.set_cons_zero]; go_big_quiet_on)
            | (go_big_quiet_want; refine quiet_load_row 41 _ rfl _ rfl _ _ _ _ HROW.out Tryz.underlying41 rfl HSZ.out ?_; simp only [Act.put, List.setIfInBounds_toArray, List.set_cons_succ, List.set_cons_zero]; go_big_quiet_on)
            | go_big_quiet_step ((intro hW; first | (go_at_call 71; exact Ret.quiet hW (HP1.out _ (HBA.out.trans (hW.mono HBA.out.size)))) | (go_at_call 72; exact Ret.quiet hW (HP2.out _)) | (go_at_call 75; exact Ret.quiet hW (HPAR.out nd.path _ (HBA.out.trans (hW.mono HBA.out.size)) HPL.out.1)) | (go_at_call 74; exact Ret.quiet hW (HP5.out _ (HBA.out.trans (hW.mono HBA.out.size))))))
          refine wpQuiet_nil ?_
          intro W2 hW2
          go_wp2_with (fail)
          go_roundw
          case rel => exact ⟨0 + 1, by omega, by first | rfl | go_num, HRF, HAL, Lib.hid (HBA.out.trans (hW2.mono HBA.out.size))⟩
          case measure => simp [intOf]; omega
      | succ k =>
        obtain ⟨ad2, e2, d0, d1, d2, d3⟩ := node_cells (HR.out _ HBA.out) (i := k) (by omega)
        obtain rfl : ad = ad2 := by injection e2
        have hpl2 := HP.out _ (mem_getD (show k < t.length by omega))
        have HBF : Hid (beforeN t (k + 1) = decide (orderM (t.getD k default).path nd.path < 0)) := Lib.hid (by rw [HND.out]; rfl)
        obtain ⟨md, HMD⟩ : ∃ nd : Nd, Hid (nd = t.getD k default) := ⟨_, Lib.hid rfl⟩
        rw [← HMD.out] at d0 d1 d2 d3 hpl2 HBF
        have HPL2 := Lib.hid hpl2
        have HD0 := Lib.hid d0
        clear d0 d1 d2 d3 hpl2 e2
        have k0 : (0 : Int) ≤ k := by omega
        have k1 : (k : Int) < t.length := by omega
        cases hor : decide (orderM md.path nd.path < 0) with
        | false =>
          have hoi : orderM md.path nd.path ≥ 0 := by have := of_decide_eq_false hor; omega
          have hoi2 : decide ((0 : Int) ≤ orderM md.path nd.path) = true := decide_eq_true hoi
          have HP3 := Lib.hid (fun W => Order_any md.path nd.path W HPL2.out.1 HPL.out.1)
          have HRF := Lib.hid (show res = false by rw [HAT.out, HN.out, HBF.out, hor]; rfl)
          clear hor
          generalize orderM md.path nd.path = o at *
          refine wp_region_below (by kernel_rfl) (by kernel_rfl) ?_
          repeat first
            | (go_big_quiet_want; refine quiet_load_cell 9 _ rfl _ rfl _ _ HC0.out Tryz.underlying9 rfl ?_; simp only [Act.put, List.setIfInBounds_toArray, List.set_cons_succ, List.set_cons_zero]; go_big_quiet_on)
            | (go_big_quiet_want; refine quiet_load_cell 9 _ rfl _ rfl _ _ HD0.out Tryz.underlying9 rfl ?_; simp only [Act.put, List.setIfInBounds_toArray, List.set_cons_succ, List.set_cons_zero]; go_big_quiet_on)
            | (go_big_quiet_want; refine quiet_load_row 41 _ rfl _ rfl _ _ _ _ HROW.out Tryz.underlying41 rfl HSZ.out ?_; simp only [Act.put, List.setIfInBounds_toArray, List.set_cons_succ, List.set_cons_zero]; go_big_quiet_on)
            | go_big_quiet_step ((intro hW; first | (go_at_call 71; exact Ret.quiet hW (HP1.out _ (HBA.out.trans (hW.mono HBA.out.size)))) | (go_at_call 72; exact Ret.quiet hW (HP2.out _)) | (go_at_call 73; exact Ret.quiet hW (HP3.out _))))
          refine wpQuiet_nil ?_
          intro W2 hW2
          go_wp2_with (fail)
          go_ret
          exact ⟨by rw [HRF.out]; rfl, HBA.out.trans (hW2.mono HBA.out.size)⟩
        | true =>
        have hoi2 : decide ((0 : Int) ≤ orderM md.path nd.path) = false := by have := of_decide_eq_true hor; rw [decide_eq_false_iff_not]; omega
        have HP3 := Lib.hid (fun W => Order_any md.path nd.path W HPL2.out.1 HPL.out.1)
        rw [hor] at HBF
        clear hor
        generalize orderM md.path nd.path = o at *
        have HSRT := Lib.hid (srt_ahead HA.out)
        have hpp : (parentM nd.path).length ≤ 9223372036854775807 := Nat.le_trans (parentM_le nd.path) HPL.out.1
        have HPP := Lib.hid hpp
        clear hpp
        cases hdi : dirN (t.take (k + 1)) (parentM nd.path) with
        | false =>
          have HP5 := Lib.hid (fun W h => (hdi ▸ HDIR.out (k + 1) (parentM nd.path) W h (by omega) HSRT.out HPP.out : Calls Tryz.prog 74 #[.slice (some ad) (k + 1) c, .string ⟨(parentM nd.path).toArray⟩] W (Ret W (.bool false))))
          have HRF := Lib.hid (show res = false by rw [HAT.out, HN.out, HBF.out, Bool.true_and, hdi]; rfl)
          clear hdi
          refine wp_region_below (by kernel_rfl) (by kernel_rfl) ?_
          repeat first
            | (go_big_quiet_want; refine quiet_load_cell 9 _ rfl _ rfl _ _ HC0.out Tryz.underlying9 rfl ?_; simp only [Act.put, List.setIfInBounds_toArray, List.set_cons_succ, List.set_cons_zero]; go_big_quiet_on)
            | (go_big_quiet_want; refine quiet_load_cell 9 _ rfl _ rfl _ _ HD0.out Tryz.underlying9 rfl ?_; simp only [Act.put, List.setIfInBounds_toArray, List.set_cons_succ, List.set_cons_zero]; go_big_quiet_on)
            | (go_big_quiet_want; refine quiet_load_row 41 _ rfl _ rfl _ _ _ _ HROW.out Tryz.underlying41 rfl HSZ.out ?_; simp only [Act.put, List.setIfInBounds_toArray, List.set_cons_succ, List.set_cons_zero]; go_big_quiet_on)
            | go_big_quiet_step ((intro hW; first | (go_at_call 71; exact Ret.quiet hW (HP1.out _ (HBA.out.trans (hW.mono HBA.out.size)))) | (go_at_call 72; exact Ret.quiet hW (HP2.out _)) | (go_at_call 73; exact Ret.quiet hW (HP3.out _)) | (go_at_call 75; exact Ret.quiet hW (HPAR.out nd.path _ (HBA.out.trans (hW.mono HBA.out.size)) HPL.out.1)) | (go_at_call 74; exact Ret.quiet hW (HP5.out _ (HBA.out.trans (hW.mono HBA.out.size))))))
          refine wpQuiet_nil ?_
          intro W2 hW2
          go_wp2_with (fail)
          go_ret
          exact ⟨by rw [HRF.out]; rfl, HBA.out.trans (hW2.mono HBA.out.size)⟩
        | true =>
          have HP5 := Lib.hid (fun W h => (hdi ▸ HDIR.out (k + 1) (parentM nd.path) W h (by omega) HSRT.out HPP.out : Calls Tryz.prog 74 #[.slice (some ad) (k + 1) c, .string ⟨(parentM nd.path).toArray⟩] W (Ret W (.bool true))))
          have HNT : nodeOK (t.take (k + 1)) t (k + 1) = true := by rw [HN.out, HBF.out, Bool.true_and, hdi]
          have HRF := Lib.hid (show restOK (fun i => nodeOK (t.take i) t i) (k + 1 + 1) t.length = res by rw [HAT.out, HNT, Bool.true_and])
          have HAL := Lib.hid (show ∀ j, j < k + 1 + 1 → nodeOK (t.take j) t j = true from fun j hj => by
            by_cases e : j = k + 1
            · rw [e]; exact HNT
            · exact HA.out j (by omega))
          clear hdi HNT
          refine wp_region_below (by kernel_rfl) (by kernel_rfl) ?_
          repeat first
            | (go_big_quiet_want; refine quiet_load_cell 9 _ rfl _ rfl _ _ HC0.out Tryz.underlying9 rfl ?_; simp only [Act.put, List.setIfInBounds_toArray, List.set_cons_succ, List.set_cons_zero]; go_big_quiet_on)
            | (go_big_quiet_want; refine quiet_load_cell 9 _ rfl _ rfl _ _ HD0.out Tryz.underlying9 rfl ?_; simp only [Act.put, List.setIfInBounds_toArray, List.set_cons_succ, List.set_cons_zero]; go_big_quiet_on)
            | (go_big_quiet_want; refine quiet_load_row 41 _ rfl _ rfl _ _ _ _ HROW.out Tryz.underlying41 rfl HSZ.out ?_; simp only [Act.put, List.setIfInBounds_toArray, List.set_cons_succ, List.set_cons_zero]; go_big_quiet_on)
            | go_big_quiet_step ((intro hW; first | (go_at_call 71; exact Ret.quiet hW (HP1.out _ (HBA.out.trans (hW.mono HBA.out.size)))) | (go_at_call 72; exact Ret.quiet hW (HP2.out _)) | (go_at_call 73; exact Ret.quiet hW (HP3.out _)) | (go_at_call 75; exact Ret.quiet hW (HPAR.out nd.path _ (HBA.out.trans (hW.mono HBA.out.size)) HPL.out.1)) | (go_at_call 74; exact Ret.quiet hW (HP5.out _ (HBA.out.trans (hW.mono HBA.out.size))))))
          refine wpQuiet_nil ?_
          intro W2 hW2
          go_wp2_with (fail)
          go_roundw
          case rel => exact ⟨k + 1 + 1, by omega, by first | rfl | go_num, HRF, HAL, Lib.hid (HBA.out.trans (hW2.mono HBA.out.size))⟩
          case measure => simp [intOf]; omega
    · have i1 : ¬ (i : Int) < t.length := by omega
      obtain rfl : i = t.length := by omega
      have HE2 := Lib.hid (show res = true by rw [← HE.out, restOK_end])
      go_wp2_with (fail)
      go_ret
      exact ⟨by rw [HE2.out]; rfl, HB.out⟩
end Go.Proofs.YtjajoiahgfafgaaGreatDoor
end
