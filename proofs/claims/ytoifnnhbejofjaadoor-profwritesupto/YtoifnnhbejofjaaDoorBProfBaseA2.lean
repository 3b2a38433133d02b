/- Texts joined: Open2, Open3, OpenT, Trod, Card, PlainCut, Plain01. -/
import Derived.Test.YtoifnnhbejofjaaDoorBProfBaseA1
import Derived.Deep.Slices
import Derived.Deep.Fields
import Derived.ChangeSame
import Derived.Lib.SmallJoins
import Derived.ChangeArms
import Derived.Test.YtoifnnhbejofjaaDoorCards
import Derived.Test.YtoifnnhbejofjaaDoorTie
import Derived.Deep.DeepHandedRow
import Derived.Lib.Split
import Derived.Lib.ValidLaws
import Derived.Lib.Join
set_option linter.unusedSimpArgs false
set_option linter.unusedVariables false

/- Opening of arguments: lists of numbers, lists of bools, lists of whatever one cell holds. -/
section
namespace Go.Proofs.YtoifnnhbejofjaaDoor
open Go.ChangeShapes Go.WideShapes Go.ChangeAt Go.RowKit Go.Deep

section
variable {H : Type} {enc : TypeId × Value → H} {P : Program} {w : World} {base : Nat} {held : Bool}

theorem bulkAll_range (n : Nat) (D : Nat → DataW H) (f : Nat → Nat) (h : ∀ i, i < n → f i ≤ Rows.uptoBulk (D i)) : ((List.range n).map f).sum ≤ Rows.uptoBulkAll ((List.range n).map D) := by
  have key : ∀ l : List Nat, (∀ i ∈ l, i < n) → (l.map f).sum ≤ Rows.uptoBulkAll (l.map D) := by
    intro l
    induction l with
    | nil => intro _; simp [Rows.uptoBulkAll]
    | cons a l ih =>
      intro hl
      have h1 := ih (fun i hi => hl i (List.mem_cons_of_mem _ hi))
      have h2 := h a (hl a (List.mem_cons_self ..))
      simp only [List.map_cons, List.sum_cons, Rows.uptoBulkAll]
      omega
  exact key _ (fun i hi => List.mem_range.1 hi)

/-- A slice of cells among the arguments: what its cells read as, and its weight. -/
theorem open_list1 {α : Type} [Inhabited α] (El : Value → α → Prop) (wt : α → Nat) {r : Reach} {b0 : Nat} {t e : TypeId} {v : Value} {d : DataW H} {ps : List MemPlace} (ht : P.underlying t = some (.slice e)) (hc : P.cellsOf e = 1)
    (hel : ∀ v d ps n, DataW.trod enc P w base (fun _ => true) held n e [v] = some (d, ps) → ∃ x, El v x ∧ wt x ≤ Rows.uptoBulk d)
    (hval : Value.okWide P w r b0 t v) (hd : DataW.Trod enc P w base (fun _ => true) held t v d ps) :
    ∃ A c, ∃ (l : List α) (V : List Value), v = .slice A l.length c ∧ l.length ≤ c ∧ c ≤ maxLen ∧ V.length = l.length ∧ Reads w 1 A l.length V ∧ (∀ k (h : k < l.length) (h' : k < V.length), El V[k] l[k]) ∧ (l.map wt).sum ≤ Rows.uptoBulk d := by
  obtain ⟨a0, len, cap, rfl⟩ := okWide_slice ht hval
  obtain ⟨fuel, hf⟩ := hd
  rcases open_slice1 ht hc hf with ⟨hcs, hx⟩ | ⟨a, len', cap', m, n, V, D, Pl, hcs, _, hl, hm, hmm, hx, hcell⟩
  · simp [Value.cells] at hcs
    obtain ⟨rfl, rfl, rfl⟩ := hcs
    exact ⟨none, 0, [], [], rfl, Nat.le_refl _, Nat.zero_le _, rfl, Reads.nil _ _ _, by simp, by simp⟩
  · simp [Value.cells] at hcs
    obtain ⟨rfl, rfl, rfl⟩ := hcs
    simp only [if_true] at hmm
    subst hmm
    simp only [Prod.mk.injEq] at hx
    obtain ⟨X, hX⟩ := choose_lt (α := α) (p := fun i x => El (V i) x ∧ wt x ≤ Rows.uptoBulk (D i)) (n := len) (fun i hi => hel _ _ _ _ (hcell i (by omega)).2)
    refine ⟨some a, m, (List.range len).map X, (List.range len).map V, by simp, by simpa using hl, hm, by simp, ⟨by simp, fun _ => ⟨a, rfl, fun j u hu => ?_⟩⟩, ?_, ?_⟩
    · have hj : j < len := by have := (List.getElem?_eq_some_iff.1 hu).1; simpa using this
      rw [(hcell j (by omega)).1]
      simpa [hj] using hu
    · intro k h h'
      have hk : k < len := by simpa using h
      simpa using (hX k hk).1
    · rw [hx.1, Rows.uptoBulk, List.map_map]
      have := bulkAll_range len D (fun i => wt (X i)) (fun i hi => (hX i hi).2)
      have e : ((List.range len).map (wt ∘ X)).sum = ((List.range len).map (fun i => wt (X i))).sum := rfl
      omega
end

/-- Numbers, bools as cells. -/
def ints (l : List Int) : List Value := l.map (Value.int .i64)
theorem ints_length (l : List Int) : (ints l).length = l.length := by simp [ints]
def bools (l : List Bool) : List Value := l.map Value.bool
theorem bools_length (l : List Bool) : (bools l).length = l.length := by simp [bools]
theorem Reads.int_at {w : World} {A : Option Addr} {l : List Int} {k : Nat} (h : Reads w 1 A l.length (ints l)) (hk : k < l.length) : ∃ ad, A = some ad ∧ w.cell? (ad.add k) = some (.int .i64 l[k]) := by
  obtain ⟨ad, u, hA, hu, hc⟩ := h.at_ hk
  have : (ints l)[k]? = some (.int .i64 l[k]) := by simp [ints, hk]
  rw [this] at hu
  injection hu with hu
  exact ⟨ad, hA, by rw [hc, hu]⟩
theorem Reads.bool_at {w : World} {A : Option Addr} {l : List Bool} {k : Nat} (h : Reads w 1 A l.length (bools l)) (hk : k < l.length) : ∃ ad, A = some ad ∧ w.cell? (ad.add k) = some (.bool l[k]) := by
  obtain ⟨ad, u, hA, hu, hc⟩ := h.at_ hk
  have : (bools l)[k]? = some (.bool l[k]) := by simp [bools, hk]
  rw [this] at hu
  injection hu with hu
  exact ⟨ad, hA, by rw [hc, hu]⟩

section
variable {H : Type} {enc : TypeId × Value → H} {P : Program} {w : World} {base : Nat} {held : Bool}
theorem sum_ge {α : Type} (l : List α) (f : α → Nat) (h : ∀ x ∈ l, 1 ≤ f x) : l.length ≤ (l.map f).sum := by
  induction l with
  | nil => simp
  | cons a l ih =>
    have h1 := ih (fun x hx => h x (List.mem_cons_of_mem _ hx))
    have h2 := h a (List.mem_cons_self ..)
    simp only [List.length_cons, List.map_cons, List.sum_cons]; omega
theorem open_intsR {r : Reach} {b0 : Nat} {t e : TypeId} {v : Value} {d : DataW H} {ps : List MemPlace} (ht : P.underlying t = some (.slice e)) (he : P.underlying e = some (.int .i64)) (hc : P.cellsOf e = 1)
    (hval : Value.okWide P w r b0 t v) (hd : DataW.Trod enc P w base (fun _ => true) held t v d ps) :
    ∃ A c, ∃ l : List Int, v = .slice A l.length c ∧ l.length ≤ c ∧ c ≤ maxLen ∧ Reads w 1 A l.length (ints l) ∧ (∀ n ∈ l, -9223372036854775808 ≤ n ∧ n ≤ 9223372036854775807) ∧ l.length ≤ Rows.uptoBulk d := by
  obtain ⟨A, c, l, V, h1, h2, h3, h4, h5, h6, h7⟩ := open_list1 (α := Int) (fun v n => v = .int .i64 n ∧ -9223372036854775808 ≤ n ∧ n ≤ 9223372036854775807) (fun _ => 1) ht hc (fun v d ps n h => by
    obtain ⟨m, hv, hx, hw⟩ := DataW.trod_int he h
    have hv' : v = .int .i64 m := by simpa using hv
    exact ⟨m, ⟨hv', bounds_i64 hw⟩, bulk_one d⟩) hval hd
  have hV : V = ints l := List.ext_getElem (by rw [h4, ints_length]) (fun k h h' => by rw [(h6 k (by omega) h).1]; simp [ints])
  subst hV
  refine ⟨A, c, l, h1, h2, h3, h5, fun n hn => ?_, Nat.le_trans (sum_ge l _ (by simp)) h7⟩
  obtain ⟨k, hk, rfl⟩ := List.getElem_of_mem hn
  exact (h6 k hk (by rw [ints_length]; exact hk)).2
theorem open_boolsR {r : Reach} {b0 : Nat} {t e : TypeId} {v : Value} {d : DataW H} {ps : List MemPlace} (ht : P.underlying t = some (.slice e)) (he : P.underlying e = some .bool) (hc : P.cellsOf e = 1)
    (hval : Value.okWide P w r b0 t v) (hd : DataW.Trod enc P w base (fun _ => true) held t v d ps) :
    ∃ A c, ∃ l : List Bool, v = .slice A l.length c ∧ l.length ≤ c ∧ c ≤ maxLen ∧ Reads w 1 A l.length (bools l) ∧ l.length ≤ Rows.uptoBulk d := by
  obtain ⟨A, c, l, V, h1, h2, h3, h4, h5, h6, h7⟩ := open_list1 (α := Bool) (fun v n => v = .bool n) (fun _ => 1) ht hc (fun v d ps n h => by
    obtain ⟨m, hv, hx⟩ := DataW.trod_bool he h
    exact ⟨m, by simpa using hv, bulk_one d⟩) hval hd
  have hV : V = bools l := List.ext_getElem (by rw [h4, bools_length]) (fun k h h' => by rw [h6 k (by omega) h]; simp [bools])
  subst hV
  exact ⟨A, c, l, h1, h2, h3, h5, Nat.le_trans (sum_ge l _ (by simp)) h7⟩
end
end Go.Proofs.YtoifnnhbejofjaaDoor
end

/- Opening of arguments: slices of structs whose fields are one cell each. -/
section
namespace Go.Proofs.YtoifnnhbejofjaaDoor
open Go.ChangeShapes Go.WideShapes Go.ChangeAt Go.RowKit Go.Deep

/-- Rows of cells, one behind the other from A on. -/
def IsRows (w : World) (size : Nat) (A : Option Addr) (rows : List (List Value)) : Prop :=
  ∀ k (h : k < rows.length), ∃ ad, A = some ad ∧ ∀ j u, rows[k][j]? = some u → w.cell? (ad.add (k * size + j)) = some u
theorem IsRows.below {w w' : World} {size : Nat} {A : Option Addr} {rows : List (List Value)} (h : IsRows w size A rows) (hb : Below w.heap.size w w') : IsRows w' size A rows := by
  intro k hk
  obtain ⟨ad, hA, hc⟩ := h k hk
  exact ⟨ad, hA, fun j u hu => (hb.cell (World.block_lt_of_cell? _ _ (hc j u hu))).trans (hc j u hu)⟩

/-- What the walk asks of a row: its first cell, and the others by their places. -/
theorem IsRows.at_ {w : World} {size : Nat} {A : Option Addr} {rows : List (List Value)} (h : IsRows w size A rows) {k : Nat} (hk : k < rows.length) :
    ∃ ad, A = some ad ∧ (∀ u, rows[k][0]? = some u → w.cell? (ad.add (k * size)) = some u) ∧ ∀ j u, rows[k][j + 1]? = some u → w.cell? ⟨(ad.add (k * size)).block, (ad.add (k * size)).off + (j + 1), none⟩ = some u := by
  obtain ⟨ad, hA, hc⟩ := h k hk
  refine ⟨ad, hA, fun u hu => hc 0 u hu, fun j u hu => ?_⟩
  have h1 := hc (j + 1) u hu
  rw [← add_of_add] at h1
  rw [← h1]
  conv => rhs; rw [Addr.add, if_neg (by omega)]

section
variable {H : Type} {enc : TypeId × Value → H} {P : Program} {w : World} {base : Nat} {held : Bool}
/-- A slice of structs among the arguments: what its elements read as, and its weight. -/
theorem open_rows {α : Type} [Inhabited α] (El : List Value → α → Prop) (wt : α → Nat) {r : Reach} {b0 : Nat} {t e : TypeId} {fs : Array Field} {v : Value} {d : DataW H} {ps : List MemPlace} (ht : P.underlying t = some (.slice e)) (he : P.underlying e = some (.struct fs))
    (hone : oneCellFields P fs = true) (hC : P.cellsOf e = fs.size)
    (hel : ∀ (vs : List Value) (ys : List (DataW H × List MemPlace)) n, vs.length = fs.size → ys.length = fs.size → (∀ (j : Nat) (f : Field), fs[j]? = some f → ∃ v y, vs[j]? = some v ∧ ys[j]? = some y ∧ DataW.trod enc P w base (fun _ => true) held n f.type [v] = some y) →
      ∃ x, El vs x ∧ wt x ≤ Rows.uptoBulk (DataW.agg (ys.map (·.1))))
    (hval : Value.okWide P w r b0 t v) (hd : DataW.Trod enc P w base (fun _ => true) held t v d ps) :
    ∃ A c, ∃ (l : List α) (V : List (List Value)), v = .slice A l.length c ∧ l.length ≤ c ∧ c ≤ maxLen ∧ V.length = l.length ∧ IsRows w fs.size A V ∧ (∀ k (h : k < l.length) (h' : k < V.length), El V[k] l[k]) ∧ (l.map wt).sum ≤ Rows.uptoBulk d := by
  obtain ⟨a0, len, cap, rfl⟩ := okWide_slice ht hval
  obtain ⟨fuel, hf⟩ := hd
  rcases open_slice ht hf with ⟨hcs, hx⟩ | ⟨a, len', cap', m, n, D, Pl, hcs, _, hl, hm, hmm, hx, hcell⟩
  · simp [Value.cells] at hcs
    obtain ⟨rfl, rfl, rfl⟩ := hcs
    exact ⟨none, 0, [], [], rfl, Nat.le_refl _, Nat.zero_le _, rfl, fun k h => absurd h (by simp), by simp, by simp⟩
  · simp [Value.cells] at hcs
    obtain ⟨rfl, rfl, rfl⟩ := hcs
    simp only [if_true] at hmm
    subst hmm
    simp only [Prod.mk.injEq] at hx
    obtain ⟨X, hX⟩ := choose_lt (α := List Value × α) (p := fun i x => x.1.length = fs.size ∧ (∀ j u, x.1[j]? = some u → w.cell? (a.add (i * fs.size + j)) = some u) ∧ El x.1 x.2 ∧ wt x.2 ≤ Rows.uptoBulk (D i)) (n := len) (fun i hi => by
      obtain ⟨cs', hc, ht'⟩ := hcell i (by omega)
      rw [hC] at hc
      obtain ⟨ys, n', hn', hy, hlen, hyl, hf⟩ := DataW.trod_struct he ht'
      obtain ⟨_, hcl, hat⟩ := World.cells?_some hc
      simp only [Prod.mk.injEq] at hy
      obtain ⟨x, hx1, hx2⟩ := hel cs' ys n' hcl hyl (fun j f hj => by
        obtain ⟨ho, hk⟩ := hone_of hone j f hj
        have hjl : j < fs.size := (Array.getElem?_eq_some_iff.1 hj).1
        have hv : cs'[j]? = some (cs'[j]'(by omega)) := List.getElem?_eq_getElem (by omega)
        have h1 := hf j f hj
        rw [ho, hk] at h1
        have hone' : (cs'.drop j).take 1 = [cs'[j]'(by omega)] := by
          rw [List.drop_eq_getElem_cons (by omega)]
          rfl
        rw [hone'] at h1
        have hys : ys[j]? = some (ys[j]'(by omega)) := List.getElem?_eq_getElem (by omega)
        exact ⟨_, _, hv, hys, h1.trans hys⟩)
      refine ⟨(cs', x), hcl, fun j u hu => ?_, hx1, ?_⟩
      · have hj : j < fs.size := by
          have h1 : j < cs'.length := (List.getElem?_eq_some_iff.1 hu).1
          omega
        rw [← Go.Deep.add_add, hat j hj]
        exact hu
      · rw [hy.1]; exact hx2)
    refine ⟨some a, m, (List.range len).map (fun i => (X i).2), (List.range len).map (fun i => (X i).1), by simp, by simpa using hl, hm, by simp, ?_, ?_, ?_⟩
    · intro k h
      have hk : k < len := by simpa using h
      refine ⟨a, rfl, fun j u hu => (hX k hk).2.1 j u ?_⟩
      simpa using hu
    · intro k h h'
      have hk : k < len := by simpa using h
      simpa using (hX k hk).2.2.1
    · rw [hx.1, Rows.uptoBulk, List.map_map]
      have := bulkAll_range len D (fun i => wt (X i).2) (fun i hi => (hX i hi).2.2.2)
      have e : ((List.range len).map (wt ∘ fun i => (X i).2)).sum = ((List.range len).map (fun i => wt (X i).2)).sum := rfl
      omega
end
end Go.Proofs.YtoifnnhbejofjaaDoor
end

/- Opening of arguments: a slice of structs that is a cell of an argument; a struct of one-cell fields. -/
section
namespace Go.Proofs.YtoifnnhbejofjaaDoor
open Go.ChangeShapes Go.WideShapes Go.ChangeAt Go.RowKit Go.Deep

section
variable {H : Type} {enc : TypeId × Value → H} {P : Program} {w : World} {base : Nat} {held : Bool}
theorem open_rowsT {α : Type} [Inhabited α] (El : List Value → α → Prop) (wt : α → Nat) {t e : TypeId} {fs : Array Field} {v : Value} {d : DataW H} {ps : List MemPlace} (ht : P.underlying t = some (.slice e)) (he : P.underlying e = some (.struct fs))
    (hone : oneCellFields P fs = true) (hC : P.cellsOf e = fs.size)
    (hel : ∀ (vs : List Value) (ys : List (DataW H × List MemPlace)) n, vs.length = fs.size → ys.length = fs.size → (∀ (j : Nat) (f : Field), fs[j]? = some f → ∃ v y, vs[j]? = some v ∧ ys[j]? = some y ∧ DataW.trod enc P w base (fun _ => true) held n f.type [v] = some y) →
      ∃ x, El vs x ∧ wt x ≤ Rows.uptoBulk (DataW.agg (ys.map (·.1))))
    (hd : ∃ fuel, DataW.trod enc P w base (fun _ => true) held fuel t [v] = some (d, ps)) :
    ∃ A c, ∃ (l : List α) (V : List (List Value)), v = .slice A l.length c ∧ l.length ≤ c ∧ c ≤ maxLen ∧ V.length = l.length ∧ IsRows w fs.size A V ∧ (∀ k (h : k < l.length) (h' : k < V.length), El V[k] l[k]) ∧ (l.map wt).sum ≤ Rows.uptoBulk d := by
  obtain ⟨fuel, hf⟩ := hd
  rcases open_slice ht hf with ⟨hcs, hx⟩ | ⟨a, len, cap, m, n, D, Pl, hcs, _, hl, hm, hmm, hx, hcell⟩
  · simp only [List.cons.injEq, and_true] at hcs
    subst hcs
    simp only [Prod.mk.injEq] at hx
    exact ⟨none, 0, [], [], rfl, Nat.le_refl _, Nat.zero_le _, rfl, fun k h => absurd h (by simp), by simp, by simp⟩
  · simp only [List.cons.injEq, and_true] at hcs
    subst hcs
    simp only [if_true] at hmm
    subst hmm
    simp only [Prod.mk.injEq] at hx
    obtain ⟨X, hX⟩ := choose_lt (α := List Value × α) (p := fun i x => x.1.length = fs.size ∧ (∀ j u, x.1[j]? = some u → w.cell? (a.add (i * fs.size + j)) = some u) ∧ El x.1 x.2 ∧ wt x.2 ≤ Rows.uptoBulk (D i)) (n := len) (fun i hi => by
      obtain ⟨cs', hc, ht'⟩ := hcell i (by omega)
      rw [hC] at hc
      obtain ⟨ys, n', hn', hy, hlen, hyl, hf⟩ := DataW.trod_struct he ht'
      obtain ⟨_, hcl, hat⟩ := World.cells?_some hc
      simp only [Prod.mk.injEq] at hy
      obtain ⟨x, hx1, hx2⟩ := hel cs' ys n' hcl hyl (fun j f hj => by
        obtain ⟨ho, hk⟩ := hone_of hone j f hj
        have hjl : j < fs.size := (Array.getElem?_eq_some_iff.1 hj).1
        have hv : cs'[j]? = some (cs'[j]'(by omega)) := List.getElem?_eq_getElem (by omega)
        have h1 := hf j f hj
        rw [ho, hk] at h1
        have hone' : (cs'.drop j).take 1 = [cs'[j]'(by omega)] := by
          rw [List.drop_eq_getElem_cons (by omega)]
          rfl
        rw [hone'] at h1
        have hys : ys[j]? = some (ys[j]'(by omega)) := List.getElem?_eq_getElem (by omega)
        exact ⟨_, _, hv, hys, h1.trans hys⟩)
      refine ⟨(cs', x), hcl, fun j u hu => ?_, hx1, ?_⟩
      · have hj : j < fs.size := by
          have h1 : j < cs'.length := (List.getElem?_eq_some_iff.1 hu).1
          omega
        rw [← Go.Deep.add_add, hat j hj]
        exact hu
      · rw [hy.1]; exact hx2)
    refine ⟨some a, m, (List.range len).map (fun i => (X i).2), (List.range len).map (fun i => (X i).1), by simp, by simpa using hl, hm, by simp, ?_, ?_, ?_⟩
    · intro k h
      have hk : k < len := by simpa using h
      refine ⟨a, rfl, fun j u hu => (hX k hk).2.1 j u ?_⟩
      simpa using hu
    · intro k h h'
      have hk : k < len := by simpa using h
      simpa using (hX k hk).2.2.1
    · rw [hx.1, Rows.uptoBulk, List.map_map]
      have := bulkAll_range len D (fun i => wt (X i).2) (fun i hi => (hX i hi).2.2.2)
      have e : ((List.range len).map (wt ∘ fun i => (X i).2)).sum = ((List.range len).map (fun i => wt (X i).2)).sum := rfl
      omega
/-- A struct of one-cell fields among the arguments: its cells with their readings. -/
theorem open_aggN {r : Reach} {b0 : Nat} {t : TypeId} {fs : Array Field} {v : Value} {d : DataW H} {p : List MemPlace} (hs : P.underlying t = some (.struct fs)) (hone : oneCellFields P fs = true) (hC : P.cellsOf t = fs.size)
    (hv : Value.okWide P w r b0 t v) (h : DataW.Trod enc P w base (fun _ => true) held t v d p) :
    ∃ (vs : List Value) (ys : List (DataW H × List MemPlace)) (n : Nat), v = .agg vs.toArray ∧ vs.length = fs.size ∧ ys.length = fs.size ∧ d = .agg (ys.map (·.1)) ∧
      ∀ (j : Nat) (f : Field), fs[j]? = some f → ∃ v y, vs[j]? = some v ∧ ys[j]? = some y ∧ DataW.trod enc P w base (fun _ => true) held n f.type [v] = some y := by
  obtain ⟨cs, rfl, hsz⟩ := okWide_struct hs hv
  obtain ⟨fuel, hf⟩ := h
  obtain ⟨ys, n', hn', hy, hlen, hyl, hf⟩ := DataW.trod_struct hs hf
  simp only [Prod.mk.injEq] at hy
  have hcs : (Value.agg cs).cells.toList.length = fs.size := by rw [hlen, hC]
  have hcc : (Value.agg cs).cells.toList = cs.toList := by simp [Value.cells]
  refine ⟨cs.toList, ys, n', by simp, by rw [← hcc]; exact hcs, hyl, hy.1, fun j f hj => ?_⟩
  obtain ⟨ho, hk⟩ := hone_of hone j f hj
  have hjl : j < fs.size := (Array.getElem?_eq_some_iff.1 hj).1
  have hl : cs.toList.length = fs.size := by rw [← hcc]; exact hcs
  have h1 := hf j f hj
  rw [ho, hk, hcc] at h1
  have hone' : (cs.toList.drop j).take 1 = [cs.toList[j]'(by omega)] := by
    rw [List.drop_eq_getElem_cons (by omega)]
    rfl
  rw [hone'] at h1
  have hys : ys[j]? = some (ys[j]'(by omega)) := List.getElem?_eq_getElem (by omega)
  exact ⟨_, _, List.getElem?_eq_getElem (by omega), hys, h1.trans hys⟩
end
end Go.Proofs.YtoifnnhbejofjaaDoor
end

/- A cell that reads at a string's type. -/
section
namespace Go.Proofs.YtoifnnhbejofjaaDoor

section
variable {H : Type} {enc : TypeId × Value → H} {P : Program} {w : World} {base : Nat} {spare : Nat → Bool} {held : Bool} {t : TypeId}
/-- A cell that reads at a string's type. -/
theorem trod_str {fuel : Nat} {c : Value} {y : DataW H × List MemPlace} (ht : P.underlying t = some .string) (h : DataW.trod enc P w base spare held fuel t [c] = some y) :
    ∃ s : List UInt8, c = .string ⟨s.toArray⟩ ∧ y = (.lit (.string s), []) ∧ s.length ≤ maxLen := by
  obtain ⟨b, hb, rfl, hl⟩ := DataW.trod_string ht h
  simp only [List.cons.injEq, and_true] at hb
  subst hb
  exact ⟨b.data.toList, by cases b; simp, rfl, by simpa only [ByteArray.size, Array.length_toList] using hl⟩
end
end Go.Proofs.YtoifnnhbejofjaaDoor
end

/- The frame of a card: a world that holds the listed tables; no parameter wants a stand-in. -/
section
namespace Go.Proofs.YtoifnnhbejofjaaDoor
open Go.ChangeShapes Go.WideShapes Go.ChangeAt Go.RowKit

/-- A table's cells, off its datum. -/
def lits0 : DataW Unit → List Value
  | .lit (.int k n) => [.int k n]
  | _ => []
def lits1 : DataW Unit → List Value
  | .agg ps => ps.flatMap lits0
  | d => lits0 d
def lits2 : DataW Unit → List Value
  | .agg ps => ps.flatMap lits1
  | d => lits1 d
def layAt (h : Array Obj) (g : Nat) (d : DataW Unit) : Array Obj := h.modify g fun
  | .cells _ t frozen => .cells (lits2 d).toArray t frozen
  | o => o
/-- The settled world, the tables laid. -/
noncomputable def laidWorld (os : Os) : World :=
  { World.holding Tryd.prog os ⟨#[], #[], []⟩ with heap := layAt (layAt (World.holding Tryd.prog os ⟨#[], #[], []⟩).heap 3 Rows.laid_unicode_utf8_acceptRanges) 2 Rows.laid_unicode_utf8_first }

theorem card_plain {b : Bool} {name : String} {f0 : FuncId} {fn0 : Func} (hf0 : Tryd.pinned.checked.prog.funcNamed name = some f0) (hfn0 : Tryd.pinned.checked.prog.funcs[f0]? = some fn0) (hl : Tryd.pinned.checked.prog.looks [] = b)
    (ha : (fn0.params.toList.all fun t => !Tryd.pinned.checked.prog.wantsStandIn t) = true) (f : FuncId) (fn : Func) (hf : Tryd.pinned.checked.prog.funcNamed name = some f) (hfn : Tryd.pinned.checked.prog.funcs[f]? = some fn) :
    b = Tryd.pinned.checked.prog.looks [] ∧ ∀ (j : Nat) t, fn.params[j]? = some t → Tryd.pinned.checked.prog.wantsStandIn t = false := by
  obtain rfl : f0 = f := Option.some.inj (hf0.symm.trans hf)
  obtain rfl : fn0 = fn := Option.some.inj (hfn0.symm.trans hfn)
  refine ⟨hl.symm, fun j t ht => ?_⟩
  have hm : t ∈ fn0.params.toList := by
    rw [← Array.getElem?_toList] at ht
    exact List.mem_of_getElem? ht
  have := List.all_eq_true.1 ha t hm
  simpa using this

end Go.Proofs.YtoifnnhbejofjaaDoor
end

/- Plain laws of texts cut at a byte. -/
section
namespace Go.Proofs.YtoifnnhbejofjaaDoor.Plain

def cons1 (x : UInt8) : List (List UInt8) → List (List UInt8)
  | [] => [[x]]
  | p :: r => (x :: p) :: r
/-- a text cut behind each c; of c there stays k -/
def cutAt (c : UInt8) (k : List UInt8) : List UInt8 → List (List UInt8)
  | [] => [[]]
  | x :: s => if x = c then k :: cutAt c k s else cons1 x (cutAt c k s)
theorem cutAt_cons (c : UInt8) (k : List UInt8) (x : UInt8) (s : List UInt8) : cutAt c k (x :: s) = if x = c then k :: cutAt c k s else cons1 x (cutAt c k s) := rfl
theorem cutAt_ne (c : UInt8) (k : List UInt8) (s : List UInt8) : cutAt c k s ≠ [] := by
  cases s with
  | nil => simp [cutAt]
  | cons x s =>
    unfold cutAt
    split
    · simp
    · cases cutAt c k s <;> simp [cons1]
theorem cutAt_none (c : UInt8) (k : List UInt8) (s : List UInt8) (h : c ∉ s) : cutAt c k s = [s] := by
  induction s with
  | nil => rfl
  | cons x s ih =>
    simp only [List.mem_cons, not_or] at h
    unfold cutAt
    rw [if_neg (fun e => h.1 e.symm), ih h.2]; rfl
theorem cutAt_first (c : UInt8) (k : List UInt8) (p r : List UInt8) (h : c ∉ p) : cutAt c k (p ++ c :: r) = (p ++ k) :: cutAt c k r := by
  induction p with
  | nil => simp [cutAt]
  | cons x p ih =>
    simp only [List.mem_cons, not_or] at h
    rw [List.cons_append, cutAt_cons, if_neg (fun e => h.1 e.symm), ih h.2]; rfl
theorem cutAt_length (c : UInt8) (k : List UInt8) (s : List UInt8) : (cutAt c k s).length = s.count c + 1 := by
  induction s with
  | nil => rfl
  | cons x s ih =>
    unfold cutAt
    by_cases e : x = c
    · rw [if_pos e]; subst e; simp [ih]
    · rw [if_neg e]
      have := cutAt_ne c k s
      cases hc : cutAt c k s with
      | nil => exact absurd hc this
      | cons p r => rw [hc] at ih; simp only [cons1, List.length_cons] at ih ⊢; rw [List.count_cons, if_neg (by simpa using e)]; omega
/-- one byte more -/
theorem cutAt_snoc (c : UInt8) (k : List UInt8) (x : UInt8) : ∀ (s : List UInt8) (d : List (List UInt8)) (q : List UInt8), cutAt c k s = d ++ [q] →
    cutAt c k (s ++ [x]) = if x = c then d ++ [q ++ k, []] else d ++ [q ++ [x]]
  | [], d, q, h => by
    have hd : d = [] ∧ q = [] := by
      cases d with
      | nil => simp [cutAt] at h; exact ⟨rfl, h⟩
      | cons a d => simp [cutAt] at h
    obtain ⟨rfl, rfl⟩ := hd
    by_cases e : x = c <;> simp [cutAt, e, cons1]
  | y :: s, d, q, h => by
    rw [List.cons_append]
    rw [cutAt_cons] at h ⊢
    by_cases e : y = c
    · rw [if_pos e] at h ⊢
      cases d with
      | nil => simp at h; exact absurd h.2 (cutAt_ne _ _ _)
      | cons a d =>
        simp only [List.cons_append, List.cons.injEq] at h
        rw [cutAt_snoc c k x s d q h.2, h.1]
        split <;> rfl
    · rw [if_neg e] at h ⊢
      cases hc : cutAt c k s with
      | nil => exact absurd hc (cutAt_ne _ _ _)
      | cons p r =>
        rw [hc] at h
        simp only [cons1] at h
        cases d with
        | nil =>
          simp only [List.nil_append, List.cons.injEq] at h
          obtain ⟨rfl, rfl⟩ := h
          rw [cutAt_snoc c k x s [] p (by rw [hc]; rfl)]
          split <;> simp [cons1]
        | cons a d =>
          simp only [List.cons_append, List.cons.injEq] at h
          obtain ⟨rfl, rfl⟩ := h
          rw [cutAt_snoc c k x s (p :: d) q (by rw [hc]; rfl)]
          split <;> simp [cons1]
theorem cutAt_last (c : UInt8) (k : List UInt8) (s : List UInt8) : ∃ d q, cutAt c k s = d ++ [q] :=
  ⟨(cutAt c k s).dropLast, (cutAt c k s).getLast (cutAt_ne c k s), (List.dropLast_concat_getLast (cutAt_ne c k s)).symm⟩

theorem index_none {c : UInt8} {l : List UInt8} (h : c ∉ l) : Lib.index l [c] = -1 := by
  induction l with
  | nil => rfl
  | cons b l ih =>
    simp only [List.mem_cons, not_or] at h
    unfold Lib.index
    rw [if_neg (by simp [List.isPrefixOf, h.1]), ih h.2]; rfl
theorem index_first {c : UInt8} (p r : List UInt8) (h : c ∉ p) : Lib.index (p ++ c :: r) [c] = p.length := by
  induction p with
  | nil => simp [Lib.index, List.isPrefixOf]
  | cons b p ih =>
    simp only [List.mem_cons, not_or] at h
    rw [List.cons_append]
    unfold Lib.index
    rw [if_neg (by simp [List.isPrefixOf, h.1]), ih h.2, if_neg (by simp)]
    simp
theorem first_c {c : UInt8} : ∀ (l : List UInt8), c ∈ l → ∃ p r, l = p ++ c :: r ∧ c ∉ p
  | x :: l, h => by
    by_cases e : c = x
    · subst e; exact ⟨[], l, rfl, by simp⟩
    · obtain ⟨p, r, h1, h2⟩ := first_c l (by simpa [e] using h)
      exact ⟨x :: p, r, by rw [h1]; rfl, by simp [e, h2]⟩

theorem ext_list (l : List UInt8) (a b : Nat) : (ByteArray.mk l.toArray).extract a b = ⟨((l.drop a).take (b - a)).toArray⟩ := by
  apply ByteArray.ext; simp [List.extract]

/-- what the library's cutting gives -/
theorem splitB_cut (c : UInt8) (sv : Nat) (hsv : sv ≤ 1) : ∀ (n : Nat) (s : List UInt8), s.count c ≤ n →
    (Lib.splitB ⟨#[c]⟩ sv n ⟨s.toArray⟩).map (·.data.toList) = cutAt c (if sv = 1 then [c] else []) s := by
  intro n
  induction n with
  | zero =>
    intro s h
    rw [cutAt_none _ _ _ (List.count_eq_zero.1 (by omega))]
    simp [Lib.splitB]
  | succ n ih =>
    intro s h
    unfold Lib.splitB
    have hi : Lib.indexB ⟨s.toArray⟩ ⟨#[c]⟩ = Lib.index s [c] := rfl
    rw [hi]
    by_cases hc : c ∈ s
    · obtain ⟨p, r, rfl, hp⟩ := first_c s hc
      rw [index_first p r hp, if_neg (by simp), cutAt_first _ _ _ _ hp]
      have hcnt : r.count c ≤ n := by
        rw [List.count_append, List.count_cons_self] at h; omega
      have hex : ByteArray.extract ⟨(p ++ c :: r).toArray⟩ (((p.length : Int)).toNat + ByteArray.size ⟨#[c]⟩) (ByteArray.size ⟨(p ++ c :: r).toArray⟩) = ⟨r.toArray⟩ := by
        rw [ext_list, show ((p.length : Int)).toNat = p.length by omega, show ByteArray.size ⟨#[c]⟩ = 1 from rfl, show ByteArray.size ⟨(p ++ c :: r).toArray⟩ = (p ++ c :: r).length by simp [ByteArray.size]]
        rw [show (p ++ c :: r).drop (p.length + 1) = r by rw [← List.drop_drop, List.drop_left' rfl]; rfl, List.take_of_length_le (by simp; omega)]
      have hex0 : (ByteArray.extract ⟨(p ++ c :: r).toArray⟩ 0 (((p.length : Int)).toNat + sv)).data.toList = p ++ (if sv = 1 then [c] else []) := by
        rw [ext_list, show ((p.length : Int)).toNat = p.length by omega]
        simp only [List.drop_zero, Nat.sub_zero]
        match sv, hsv with
        | 0, _ => simp
        | 1, _ => simp [List.take_append, List.take_of_length_le]
      rw [List.map_cons, hex, ih r hcnt, hex0]
    · rw [index_none hc, if_pos (by decide), cutAt_none _ _ _ hc]
      simp
/-- without an empty last one -/
def trimLast : List (List UInt8) → List (List UInt8)
  | [] => []
  | [q] => if q = [] then [] else [q]
  | x :: y :: r => x :: trimLast (y :: r)
theorem trimLast_snoc (d : List (List UInt8)) (q : List UInt8) : trimLast (d ++ [q]) = d ++ if q = [] then [] else [q] := by
  induction d with
  | nil => rfl
  | cons x d ih =>
    cases d with
    | nil => rfl
    | cons y d => rw [List.cons_append, List.cons_append, trimLast]; rw [List.cons_append] at ih; rw [ih]; rfl
/-- a text's lines, with their ends -/
def linesL (s : List UInt8) : List (List UInt8) := trimLast (cutAt 10 [10] s)
theorem linesL_length (s : List UInt8) : (linesL s).length ≤ s.length + 1 := by
  obtain ⟨d, q, h⟩ := cutAt_last 10 [10] s
  have h2 := cutAt_length 10 [10] s
  have h3 : s.count 10 ≤ s.length := List.count_le_length
  unfold linesL
  rw [h, List.length_append] at h2
  rw [h, trimLast_snoc, List.length_append]
  split <;> simp at h2 ⊢ <;> omega
end Go.Proofs.YtoifnnhbejofjaaDoor.Plain
end

/- Plain laws of names and paths. -/
section
namespace Go.Proofs.YtoifnnhbejofjaaDoor.Plain

/-! ### Cutting at '/' and joining -/
def parts (s : List UInt8) : List (List UInt8) := cutAt 47 [] s
def joinS : List (List UInt8) → List UInt8
  | [] => []
  | [x] => x
  | x :: y :: r => x ++ 47 :: joinS (y :: r)
theorem joinS_cons (x : List UInt8) (r : List (List UInt8)) (h : r ≠ []) : joinS (x :: r) = x ++ 47 :: joinS r := by
  cases r with
  | nil => exact absurd rfl h
  | cons y r => rfl
theorem parts_ne (s : List UInt8) : parts s ≠ [] := cutAt_ne _ _ _
theorem parts_length (s : List UInt8) : (parts s).length = s.count 47 + 1 := cutAt_length _ _ _
theorem join_cons1 (x : UInt8) (l : List (List UInt8)) (h : l ≠ []) : joinS (cons1 x l) = x :: joinS l := by
  cases l with
  | nil => exact absurd rfl h
  | cons p r => cases r <;> rfl
theorem join_parts (s : List UInt8) : joinS (parts s) = s := by
  unfold parts
  induction s with
  | nil => rfl
  | cons x s ih =>
    rw [cutAt_cons]
    split
    · rename_i e; subst e; rw [joinS_cons _ _ (cutAt_ne _ _ _), ih]; rfl
    · rw [join_cons1 _ _ (cutAt_ne _ _ _), ih]
theorem parts_none (s : List UInt8) (h : 47 ∉ s) : parts s = [s] := cutAt_none _ _ _ h
theorem parts_first (p r : List UInt8) (h : 47 ∉ p) : parts (p ++ 47 :: r) = p :: parts r := by
  unfold parts; rw [cutAt_first _ _ _ _ h, List.append_nil]
theorem parts_join : ∀ (l : List (List UInt8)), l ≠ [] → (∀ x ∈ l, 47 ∉ x) → parts (joinS l) = l
  | [], h, _ => absurd rfl h
  | [x], _, h => parts_none x (h x (by simp))
  | x :: y :: r, _, h => by
    rw [joinS_cons _ _ (by simp), parts_first _ _ (h x (by simp)), parts_join (y :: r) (by simp) (fun z hz => h z (by simp [hz]))]
theorem mem_cons1 {x : UInt8} {l : List (List UInt8)} {z : List UInt8} (h : z ∈ cons1 x l) (hl : ∀ y ∈ l, 47 ∉ y) (hx : x ≠ 47) : 47 ∉ z := by
  cases l with
  | nil => simp [cons1] at h; subst h; simpa using fun e => hx e.symm
  | cons p r =>
    simp only [cons1, List.mem_cons] at h
    rcases h with rfl | h
    · have := hl p (by simp); simpa [this] using fun e => hx e.symm
    · exact hl z (by simp [h])
theorem parts_no (s : List UInt8) : ∀ x ∈ parts s, 47 ∉ x := by
  unfold parts
  induction s with
  | nil => intro x hx; simp [cutAt] at hx; subst hx; simp
  | cons a s ih =>
    intro x hx
    rw [cutAt_cons] at hx
    split at hx
    · simp at hx; rcases hx with rfl | hx; simp; exact ih x hx
    · exact mem_cons1 hx ih (by assumption)
/-- the last '/' -/
theorem last_cut {s : List UInt8} (h : 47 ∈ s) : ∃ p q, s = p ++ 47 :: q ∧ 47 ∉ q := by
  have := first_c (c := 47) s.reverse (by simpa using h)
  obtain ⟨a, b, hs, ha⟩ := this
  refine ⟨b.reverse, a.reverse, ?_, by simpa using ha⟩
  have := congrArg List.reverse hs
  simpa using this
theorem join_append : ∀ (l m : List (List UInt8)), l ≠ [] → m ≠ [] → joinS (l ++ m) = joinS l ++ 47 :: joinS m
  | [], _, h, _ => absurd rfl h
  | [x], m, _, hm => joinS_cons x m hm
  | x :: y :: r, m, _, hm => by
    have h := join_append (y :: r) m (by simp) hm
    show x ++ 47 :: joinS (y :: r ++ m) = (x ++ 47 :: joinS (y :: r)) ++ 47 :: joinS m
    rw [h]; simp
theorem parts_last (p q : List UInt8) (h : 47 ∉ q) : parts (p ++ 47 :: q) = parts p ++ [q] := by
  have : joinS (parts p ++ [q]) = p ++ 47 :: q := by
    rw [join_append _ _ (parts_ne p) (by simp), join_parts]; rfl
  rw [← this, parts_join]
  · simp
  · intro x hx; simp at hx; rcases hx with hx | rfl; exact parts_no p x hx; exact h
theorem join_length : ∀ (l : List (List UInt8)), (joinS l).length = (l.map List.length).sum + (l.length - 1)
  | [] => rfl
  | [x] => by simp [joinS]
  | x :: y :: r => by rw [joinS_cons _ _ (by simp)]; have := join_length (y :: r); simp at this ⊢; omega
theorem join_count : ∀ (l : List (List UInt8)), (joinS l).count 47 = (l.map (List.count 47)).sum + (l.length - 1)
  | [] => rfl
  | [x] => by simp [joinS]
  | x :: y :: r => by rw [joinS_cons _ _ (by simp)]; have := join_count (y :: r); simp at this ⊢; omega
theorem join_lib (l : List (List UInt8)) : Lib.join l [47] = joinS l := by
  unfold Lib.join
  induction l with
  | nil => rfl
  | cons x r ih =>
    cases r with
    | nil => simp [joinS, List.intercalate]
    | cons y r => rw [joinS_cons _ _ (by simp), ← ih]; simp [List.intercalate, List.intersperse]

/-! ### Names and paths -/
def nameOK (s : List UInt8) : Bool := !s.isEmpty && decide (s.length ≤ 64) && !(s == [46]) && !(s == [46, 46]) && Lib.validD s && !s.contains 47 && !s.contains 0
def pathOK (s : List UInt8) : Bool := decide (s.length ≤ 400) && decide ((parts s).length ≤ 16) && (parts s).all nameOK
theorem pathOK_len {s : List UInt8} (h : pathOK s = true) : s.length ≤ 400 := by
  unfold pathOK at h; simp at h; exact h.1.1
theorem pathOK_ne {s : List UInt8} (h : pathOK s = true) : s ≠ [] := by
  rintro rfl
  revert h; decide
theorem pathOK_mem {s n : List UInt8} (h : pathOK s = true) (hn : n ∈ parts s) : nameOK n = true := by
  unfold pathOK at h; simp at h; exact h.2 n hn
theorem pathOK_join {l : List (List UInt8)} (hl : l ≠ []) (h16 : l.length ≤ 16) (h : ∀ x ∈ l, nameOK x = true) (h400 : (joinS l).length ≤ 400) : pathOK (joinS l) = true := by
  have hno : ∀ x ∈ l, 47 ∉ x := fun x hx => by have := h x hx; unfold nameOK at this; simp at this; exact this.1.2
  unfold pathOK
  rw [parts_join l hl hno]
  simp; exact ⟨⟨h400, h16⟩, h⟩
theorem nameOK_path {s : List UInt8} (h : nameOK s = true) : pathOK s = true := by
  unfold nameOK at h; simp at h
  obtain ⟨⟨⟨⟨⟨⟨h1, h2⟩, h3⟩, h4⟩, h5⟩, h6⟩, h7⟩ := h
  unfold pathOK
  rw [parts_none s h6]
  simp [nameOK, h1, h2, h3, h4, h5, h6, h7]; omega

/-! ### What is above and what is last -/
def parentM (s : List UInt8) : List UInt8 := if pathOK s then joinS (parts s).dropLast else []
def baseM (s : List UInt8) : List UInt8 := if pathOK s then (parts s).getLast (parts_ne s) else []
theorem parent_none {s : List UInt8} (h : 47 ∉ s) : parentM s = [] := by
  unfold parentM; split; rw [parts_none s h]; rfl; rfl
theorem parent_cut (p q : List UInt8) (h : 47 ∉ q) (hp : pathOK (p ++ 47 :: q) = true) : parentM (p ++ 47 :: q) = p := by
  unfold parentM; rw [if_pos hp, parts_last p q h, List.dropLast_concat, join_parts]
theorem base_cut (p q : List UInt8) (h : 47 ∉ q) (hp : pathOK (p ++ 47 :: q) = true) : baseM (p ++ 47 :: q) = q := by
  unfold baseM; rw [if_pos hp]
  simp only [parts_last p q h]
  simp
theorem base_none {s : List UInt8} (h : 47 ∉ s) (hp : pathOK s = true) : baseM s = s := by
  unfold baseM; rw [if_pos hp]; simp only [parts_none s h]; rfl
theorem path_above (p q : List UInt8) (h : 47 ∉ q) (hp : pathOK (p ++ 47 :: q) = true) : pathOK p = true := by
  have h0 := hp
  unfold pathOK at hp
  rw [parts_last p q h] at hp
  simp at hp
  unfold pathOK
  simp
  exact ⟨⟨by omega, by omega⟩, fun x hx => hp.2.1 x hx⟩

/-! ### Within -/
def withinM (p q : List UInt8) : Bool := pathOK p && (q.isEmpty || pathOK q && (p == q || (q ++ [47]).isPrefixOf p))
theorem parts_join_app (t : List UInt8) : ∀ (l : List (List UInt8)), l ≠ [] → (∀ x ∈ l, 47 ∉ x) → parts (joinS l ++ 47 :: t) = l ++ parts t
  | [], h, _ => absurd rfl h
  | [x], _, hno => parts_first x t (hno x (by simp))
  | x :: y :: r, _, hno => by
    have h := parts_join_app t (y :: r) (by simp) (fun z hz => hno z (by simp [hz]))
    show parts ((x ++ 47 :: joinS (y :: r)) ++ 47 :: t) = _
    rw [List.append_assoc, List.cons_append, parts_first _ _ (hno x (by simp)), h]; rfl
theorem prefix_parts (q p : List UInt8) : (p = q ∨ (q ++ [47]) <+: p) ↔ parts q <+: parts p := by
  constructor
  · rintro (rfl | ⟨t, rfl⟩)
    · exact List.prefix_refl _
    · have h := parts_join_app t (parts q) (parts_ne q) (parts_no q)
      rw [join_parts] at h
      rw [List.append_assoc, List.singleton_append, h]
      exact List.prefix_append _ _
  · rintro ⟨r, hr⟩
    have hp := join_parts p
    rw [← hr] at hp
    cases r with
    | nil => left; rw [List.append_nil, join_parts] at hp; exact hp.symm
    | cons y r =>
      right
      rw [← hp, join_append _ _ (parts_ne q) (by simp), join_parts]
      exact ⟨joinS (y :: r), by simp⟩
theorem withinM_parts (p q : List UInt8) : withinM p q = (pathOK p && (q.isEmpty || pathOK q && (parts q).isPrefixOf (parts p))) := by
  unfold withinM
  congr 2
  congr 1
  rw [Bool.eq_iff_iff]
  simp only [Bool.or_eq_true, beq_iff_eq, List.isPrefixOf_iff_prefix]
  exact prefix_parts q p

/-! ### The order -/
def orderP : List (List UInt8) → List (List UInt8) → Int
  | [], [] => 0
  | [], _ :: _ => -1
  | _ :: _, [] => 1
  | x :: xs, y :: ys => if x < y then -1 else if y < x then 1 else orderP xs ys
def orderM (a b : List UInt8) : Int := orderP (parts a) (parts b)
theorem lt_irrefl' (x : List UInt8) : ¬ x < x := List.lt_irrefl x
theorem eq_of_not_lt {x y : List UInt8} (h1 : ¬ x < y) (h2 : ¬ y < x) : x = y := List.le_antisymm (List.not_lt.1 h2) (List.not_lt.1 h1)
theorem orderP_self : ∀ l, orderP l l = 0
  | [] => rfl
  | x :: l => by unfold orderP; rw [if_neg (lt_irrefl' x), if_neg (lt_irrefl' x), orderP_self l]
theorem orderP_cases : ∀ a b, orderP a b = -1 ∨ orderP a b = 0 ∨ orderP a b = 1
  | [], [] => by simp [orderP]
  | [], _ :: _ => by simp [orderP]
  | _ :: _, [] => by simp [orderP]
  | x :: xs, y :: ys => by
    unfold orderP
    split
    · simp
    · split
      · simp
      · exact orderP_cases xs ys
theorem orderP_zero : ∀ a b, orderP a b = 0 ↔ a = b
  | [], [] => by simp [orderP]
  | [], _ :: _ => by simp [orderP]
  | _ :: _, [] => by simp [orderP]
  | x :: xs, y :: ys => by
    unfold orderP
    split
    · rename_i h; simp; rintro rfl; exact absurd h (lt_irrefl' _)
    · split
      · rename_i h; simp; rintro rfl; exact absurd h (lt_irrefl' _)
      · rw [orderP_zero xs ys, eq_of_not_lt (x := x) (y := y) (by assumption) (by assumption)]; simp
theorem orderP_neg : ∀ a b, orderP b a = - orderP a b
  | [], [] => by simp [orderP]
  | [], _ :: _ => by simp [orderP]
  | _ :: _, [] => by simp [orderP]
  | x :: xs, y :: ys => by
    unfold orderP
    by_cases h1 : x < y
    · rw [if_pos h1, if_neg (List.lt_asymm h1), if_pos h1]; rfl
    · by_cases h2 : y < x
      · simp [h1, h2]
      · simp only [h1, h2, if_false]; exact orderP_neg xs ys
theorem orderP_trans : ∀ a b c, orderP a b ≤ 0 → orderP b c ≤ 0 → orderP a c ≤ 0 ∧ (orderP a b < 0 → orderP a c < 0)
  | [], [], [], _, _ => by simp [orderP]
  | [], [], _ :: _, _, _ => by simp [orderP]
  | [], _ :: _, [], _, h => by simp [orderP] at h
  | [], _ :: _, _ :: _, _, _ => by simp [orderP]
  | _ :: _, [], _, h, _ => by simp [orderP] at h
  | _ :: _, _ :: _, [], _, h => by simp [orderP] at h
  | x :: xs, y :: ys, z :: zs, h1, h2 => by
    unfold orderP at h1 h2 ⊢
    by_cases a1 : x < y
    · by_cases b1 : y < z
      · have := List.lt_trans a1 b1; simp [this]
      · by_cases b2 : z < y
        · simp [b1, b2] at h2
        · have := eq_of_not_lt b1 b2; subst this; simp [a1]
    · by_cases a2 : y < x
      · simp [a1, a2] at h1
      · have := eq_of_not_lt a1 a2; subst this
        by_cases b1 : x < z
        · simp [b1]
        · by_cases b2 : z < x
          · simp [b1, b2] at h2
          · have := eq_of_not_lt b1 b2; subst this
            simp only [lt_irrefl', if_false] at h1 h2 ⊢
            exact orderP_trans xs ys zs h1 h2
/-- between a and what is within it stands nothing that isn't -/
theorem orderP_between : ∀ a b c, a <+: c → orderP a b < 0 → orderP b c < 0 → a <+: b
  | [], _, _, _, _, _ => List.nil_prefix
  | x :: xs, [], _, _, h, _ => by simp [orderP] at h
  | x :: xs, y :: ys, [], h, _, _ => by simp at h
  | x :: xs, y :: ys, z :: zs, hp, h1, h2 => by
    rw [List.cons_prefix_cons] at hp
    obtain ⟨rfl, hp⟩ := hp
    unfold orderP at h1 h2
    by_cases a1 : x < y
    · simp [a1, List.lt_asymm a1] at h2
    · by_cases a2 : y < x
      · simp [a1, a2] at h1
      · have := eq_of_not_lt a1 a2; subst this
        simp only [lt_irrefl', if_false] at h1 h2
        exact List.cons_prefix_cons.2 ⟨rfl, orderP_between xs ys zs hp h1 h2⟩

/-! ### Letters made small -/
def lowB (b : UInt8) : UInt8 := if 65 ≤ b ∧ b ≤ 90 then b + 32 else b
def foldM (s : List UInt8) : List UInt8 := s.map lowB
end Go.Proofs.YtoifnnhbejofjaaDoor.Plain
end
