/- Opening of arguments: slices of structs that hold a struct. -/
import Derived.Test.YtknoedlelmflhaaOpen3
import Derived.Test.YtknoedlelmflhaaTrod
import Derived.Lib.SmallJoins
namespace Go.Proofs.Ytknoedlelmflhaa
open Go.ChangeShapes Go.WideShapes Go.ChangeAt Go.RowKit Go.Deep

section
variable {H : Type} {enc : TypeId × Value → H} {P : Program} {w : World} {base : Nat} {held : Bool}
/-- A slice of structs among the arguments: each field's cells read at the field's type. -/
theorem open_rowsW {α : Type} [Inhabited α] (El : List Value → α → Prop) {r : Reach} {b0 : Nat} {t e : TypeId} {fs : Array Field} {size : Nat} {v : Value} {d : DataW H} {ps : List MemPlace} (ht : P.underlying t = some (.slice e)) (he : P.underlying e = some (.struct fs))
    (hC : P.cellsOf e = size)
    (hel : ∀ (vs : List Value) n, vs.length = size → (∀ (j : Nat) (f : Field), fs[j]? = some f → ∃ y, DataW.trod enc P w base (fun _ => true) held n f.type ((vs.drop f.offset).take (P.cellsOf f.type)) = some y) → ∃ x, El vs x)
    (hval : Value.okWide P w r b0 t v) (hd : DataW.Trod enc P w base (fun _ => true) held t v d ps) :
    ∃ A c, ∃ (l : List α) (V : List (List Value)), v = .slice A l.length c ∧ l.length ≤ c ∧ c ≤ maxLen ∧ V.length = l.length ∧ IsRows w size A V ∧ (∀ k (h : k < l.length) (h' : k < V.length), El V[k] l[k]) := by
  obtain ⟨a0, len, cap, rfl⟩ := okWide_slice ht hval
  obtain ⟨fuel, hf⟩ := hd
  rcases open_slice ht hf with ⟨hcs, hx⟩ | ⟨a, len', cap', m, n, D, Pl, hcs, _, hl, hm, hmm, hx, hcell⟩
  · simp [Value.cells] at hcs
    obtain ⟨rfl, rfl, rfl⟩ := hcs
    exact ⟨none, 0, [], [], rfl, Nat.le_refl _, Nat.zero_le _, rfl, fun k h => absurd h (by simp), by simp⟩
  · simp [Value.cells] at hcs
    obtain ⟨rfl, rfl, rfl⟩ := hcs
    simp only [if_true] at hmm
    subst hmm
    obtain ⟨X, hX⟩ := choose_lt (α := List Value × α) (p := fun i x => x.1.length = size ∧ (∀ j u, x.1[j]? = some u → w.cell? (a.add (i * size + j)) = some u) ∧ El x.1 x.2) (n := len) (fun i hi => by
      obtain ⟨cs', hc, ht'⟩ := hcell i (by omega)
      rw [hC] at hc
      obtain ⟨ys, n', hn', hy, hlen, hyl, hf⟩ := DataW.trod_struct he ht'
      obtain ⟨_, hcl, hat⟩ := World.cells?_some hc
      obtain ⟨x, hx1⟩ := hel cs' n' hcl (fun j f hj => by
        have h1 := hf j f hj
        have hjl : j < fs.size := (Array.getElem?_eq_some_iff.1 hj).1
        have hys : ys[j]? = some (ys[j]'(by omega)) := List.getElem?_eq_getElem (by omega)
        exact ⟨_, h1.trans hys⟩)
      refine ⟨(cs', x), hcl, fun j u hu => ?_, hx1⟩
      have hj : j < size := by
        have h1 : j < cs'.length := (List.getElem?_eq_some_iff.1 hu).1
        omega
      rw [← Go.Deep.add_add, hat j hj]
      exact hu)
    refine ⟨some a, m, (List.range len).map (fun i => (X i).2), (List.range len).map (fun i => (X i).1), by simp, by simpa using hl, hm, by simp, ?_, ?_⟩
    · intro k h
      have hk : k < len := by simpa using h
      refine ⟨a, rfl, fun j u hu => (hX k hk).2.1 j u ?_⟩
      simpa using hu
    · intro k h h'
      have hk : k < len := by simpa using h
      simpa using (hX k hk).2.2
end
end Go.Proofs.Ytknoedlelmflhaa
