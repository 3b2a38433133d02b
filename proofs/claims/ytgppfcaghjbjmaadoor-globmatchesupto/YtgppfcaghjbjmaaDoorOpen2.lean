/- Opening of arguments: lists of numbers, lists of bools, lists of whatever one cell holds. -/
import Derived.Test.YtgppfcaghjbjmaaDoorOpen
import Derived.Deep.Slices
namespace Go.Proofs.YtgppfcaghjbjmaaDoor
open Go.ChangeShapes Go.WideShapes Go.ChangeAt Go.RowKit Go.Deep

section
variable {H : Type} {enc : TypeId × Value → H} {P : Program} {w : World} {base : Nat} {held : Bool}

theorem bulkAll_range (n : Nat) (D : Nat → DataW H) (f : Nat → Nat) (h : ∀ i, i < n → f i ≤ Rows.uptoBulk (D i)) : ((List.range n).map f).sum ≤ Rows.uptoBulkAll ((List.range n).map D) := by
  have key : ∀ l : List Nat, (∀ i ∈ l, i < n) → (l.map f).sum ≤ Rows.uptoBulkAll (l.map D) := by
    intro l
    induction l with
    | nil => intro _; simp [Rows.uptoBulkAll]
    | cons a l ih =>
      intro hl
      have h1 := ih (fun i hi => hl i (List.mem_cons_of_mem _ hi))
      have h2 := h a (hl a (List.mem_cons_self ..))
      simp only [List.map_cons, List.sum_cons, Rows.uptoBulkAll]
      omega
  exact key _ (fun i hi => List.mem_range.1 hi)

/-- A slice of cells among the arguments: what its cells read as, and its weight. -/
theorem open_list1 {α : Type} [Inhabited α] (El : Value → α → Prop) (wt : α → Nat) {r : Reach} {b0 : Nat} {t e : TypeId} {v : Value} {d : DataW H} {ps : List MemPlace} (ht : P.underlying t = some (.slice e)) (hc : P.cellsOf e = 1)
    (hel : ∀ v d ps n, DataW.trod enc P w base (fun _ => true) held n e [v] = some (d, ps) → ∃ x, El v x ∧ wt x ≤ Rows.uptoBulk d)
    (hval : Value.okWide P w r b0 t v) (hd : DataW.Trod enc P w base (fun _ => true) held t v d ps) :
    ∃ A c, ∃ (l : List α) (V : List Value), v = .slice A l.length c ∧ l.length ≤ c ∧ c ≤ maxLen ∧ V.length = l.length ∧ Reads w 1 A l.length V ∧ (∀ k (h : k < l.length) (h' : k < V.length), El V[k] l[k]) ∧ (l.map wt).sum ≤ Rows.uptoBulk d := by
  obtain ⟨a0, len, cap, rfl⟩ := okWide_slice ht hval
  obtain ⟨fuel, hf⟩ := hd
  rcases open_slice1 ht hc hf with ⟨hcs, hx⟩ | ⟨a, len', cap', m, n, V, D, Pl, hcs, _, hl, hm, hmm, hx, hcell⟩
  · simp [Value.cells] at hcs
    obtain ⟨rfl, rfl, rfl⟩ := hcs
    exact ⟨none, 0, [], [], rfl, Nat.le_refl _, Nat.zero_le _, rfl, Reads.nil _ _ _, by simp, by simp⟩
  · simp [Value.cells] at hcs
    obtain ⟨rfl, rfl, rfl⟩ := hcs
    simp only [if_true] at hmm
    subst hmm
    simp only [Prod.mk.injEq] at hx
    obtain ⟨X, hX⟩ := choose_lt (α := α) (p := fun i x => El (V i) x ∧ wt x ≤ Rows.uptoBulk (D i)) (n := len) (fun i hi => hel _ _ _ _ (hcell i (by omega)).2)
    refine ⟨some a, m, (List.range len).map X, (List.range len).map V, by simp, by simpa using hl, hm, by simp, ⟨by simp, fun _ => ⟨a, rfl, fun j u hu => ?_⟩⟩, ?_, ?_⟩
    · have hj : j < len := by have := (List.getElem?_eq_some_iff.1 hu).1; simpa using this
      rw [(hcell j (by omega)).1]
      simpa [hj] using hu
    · intro k h h'
      have hk : k < len := by simpa using h
      simpa using (hX k hk).1
    · rw [hx.1, Rows.uptoBulk, List.map_map]
      have := bulkAll_range len D (fun i => wt (X i)) (fun i hi => (hX i hi).2)
      have e : ((List.range len).map (wt ∘ X)).sum = ((List.range len).map (fun i => wt (X i))).sum := rfl
      omega
end

/-- Numbers, bools as cells. -/
def ints (l : List Int) : List Value := l.map (Value.int .i64)
theorem ints_length (l : List Int) : (ints l).length = l.length := by simp [ints]
def bools (l : List Bool) : List Value := l.map Value.bool
theorem bools_length (l : List Bool) : (bools l).length = l.length := by simp [bools]
theorem Reads.int_at {w : World} {A : Option Addr} {l : List Int} {k : Nat} (h : Reads w 1 A l.length (ints l)) (hk : k < l.length) : ∃ ad, A = some ad ∧ w.cell? (ad.add k) = some (.int .i64 l[k]) := by
  obtain ⟨ad, u, hA, hu, hc⟩ := h.at_ hk
  have : (ints l)[k]? = some (.int .i64 l[k]) := by simp [ints, hk]
  rw [this] at hu
  injection hu with hu
  exact ⟨ad, hA, by rw [hc, hu]⟩
theorem Reads.bool_at {w : World} {A : Option Addr} {l : List Bool} {k : Nat} (h : Reads w 1 A l.length (bools l)) (hk : k < l.length) : ∃ ad, A = some ad ∧ w.cell? (ad.add k) = some (.bool l[k]) := by
  obtain ⟨ad, u, hA, hu, hc⟩ := h.at_ hk
  have : (bools l)[k]? = some (.bool l[k]) := by simp [bools, hk]
  rw [this] at hu
  injection hu with hu
  exact ⟨ad, hA, by rw [hc, hu]⟩

section
variable {H : Type} {enc : TypeId × Value → H} {P : Program} {w : World} {base : Nat} {held : Bool}
theorem sum_ge {α : Type} (l : List α) (f : α → Nat) (h : ∀ x ∈ l, 1 ≤ f x) : l.length ≤ (l.map f).sum := by
  induction l with
  | nil => simp
  | cons a l ih =>
    have h1 := ih (fun x hx => h x (List.mem_cons_of_mem _ hx))
    have h2 := h a (List.mem_cons_self ..)
    simp only [List.length_cons, List.map_cons, List.sum_cons]; omega
theorem open_intsR {r : Reach} {b0 : Nat} {t e : TypeId} {v : Value} {d : DataW H} {ps : List MemPlace} (ht : P.underlying t = some (.slice e)) (he : P.underlying e = some (.int .i64)) (hc : P.cellsOf e = 1)
    (hval : Value.okWide P w r b0 t v) (hd : DataW.Trod enc P w base (fun _ => true) held t v d ps) :
    ∃ A c, ∃ l : List Int, v = .slice A l.length c ∧ l.length ≤ c ∧ c ≤ maxLen ∧ Reads w 1 A l.length (ints l) ∧ (∀ n ∈ l, -9223372036854775808 ≤ n ∧ n ≤ 9223372036854775807) ∧ l.length ≤ Rows.uptoBulk d := by
  obtain ⟨A, c, l, V, h1, h2, h3, h4, h5, h6, h7⟩ := open_list1 (α := Int) (fun v n => v = .int .i64 n ∧ -9223372036854775808 ≤ n ∧ n ≤ 9223372036854775807) (fun _ => 1) ht hc (fun v d ps n h => by
    obtain ⟨m, hv, hx, hw⟩ := DataW.trod_int he h
    have hv' : v = .int .i64 m := by simpa using hv
    exact ⟨m, ⟨hv', bounds_i64 hw⟩, bulk_one d⟩) hval hd
  have hV : V = ints l := List.ext_getElem (by rw [h4, ints_length]) (fun k h h' => by rw [(h6 k (by omega) h).1]; simp [ints])
  subst hV
  refine ⟨A, c, l, h1, h2, h3, h5, fun n hn => ?_, Nat.le_trans (sum_ge l _ (by simp)) h7⟩
  obtain ⟨k, hk, rfl⟩ := List.getElem_of_mem hn
  exact (h6 k hk (by rw [ints_length]; exact hk)).2
theorem open_boolsR {r : Reach} {b0 : Nat} {t e : TypeId} {v : Value} {d : DataW H} {ps : List MemPlace} (ht : P.underlying t = some (.slice e)) (he : P.underlying e = some .bool) (hc : P.cellsOf e = 1)
    (hval : Value.okWide P w r b0 t v) (hd : DataW.Trod enc P w base (fun _ => true) held t v d ps) :
    ∃ A c, ∃ l : List Bool, v = .slice A l.length c ∧ l.length ≤ c ∧ c ≤ maxLen ∧ Reads w 1 A l.length (bools l) ∧ l.length ≤ Rows.uptoBulk d := by
  obtain ⟨A, c, l, V, h1, h2, h3, h4, h5, h6, h7⟩ := open_list1 (α := Bool) (fun v n => v = .bool n) (fun _ => 1) ht hc (fun v d ps n h => by
    obtain ⟨m, hv, hx⟩ := DataW.trod_bool he h
    exact ⟨m, by simpa using hv, bulk_one d⟩) hval hd
  have hV : V = bools l := List.ext_getElem (by rw [h4, bools_length]) (fun k h h' => by rw [h6 k (by omega) h]; simp [bools])
  subst hV
  exact ⟨A, c, l, h1, h2, h3, h5, Nat.le_trans (sum_ge l _ (by simp)) h7⟩
end
end Go.Proofs.YtgppfcaghjbjmaaDoor
