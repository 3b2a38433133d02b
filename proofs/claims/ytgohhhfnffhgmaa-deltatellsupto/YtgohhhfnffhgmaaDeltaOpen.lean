/- Opening of arguments: steps, blocks, what is asked. -/
import Derived.Test.YtgohhhfnffhgmaaDelta13
import Derived.Test.YtgohhhfnffhgmaaOpen3
import Derived.Test.YtgohhhfnffhgmaaTrod
import Derived.Lib.SmallJoins
namespace Go.Proofs.Ytgohhhfnffhgmaa
open Go.ChangeShapes Go.WideShapes Go.ChangeAt Go.RowKit Go.Deep Plain

section
variable {H : Type} {enc : TypeId × Value → H} {P : Program} {w : World} {base : Nat} {held : Bool}
theorem open_rowsT {α : Type} [Inhabited α] (El : List Value → α → Prop) (wt : α → Nat) {t e : TypeId} {fs : Array Field} {v : Value} {d : DataW H} {ps : List MemPlace} (ht : P.underlying t = some (.slice e)) (he : P.underlying e = some (.struct fs))
    (hone : oneCellFields P fs = true) (hC : P.cellsOf e = fs.size)
    (hel : ∀ (vs : List Value) (ys : List (DataW H × List MemPlace)) n, vs.length = fs.size → ys.length = fs.size → (∀ (j : Nat) (f : Field), fs[j]? = some f → ∃ v y, vs[j]? = some v ∧ ys[j]? = some y ∧ DataW.trod enc P w base (fun _ => true) held n f.type [v] = some y) →
      ∃ x, El vs x ∧ wt x ≤ Rows.uptoBulk (DataW.agg (ys.map (·.1))))
    (hd : ∃ fuel, DataW.trod enc P w base (fun _ => true) held fuel t [v] = some (d, ps)) :
    ∃ A c, ∃ (l : List α) (V : List (List Value)), v = .slice A l.length c ∧ l.length ≤ c ∧ c ≤ maxLen ∧ V.length = l.length ∧ IsRows w fs.size A V ∧ (∀ k (h : k < l.length) (h' : k < V.length), El V[k] l[k]) ∧ (l.map wt).sum ≤ Rows.uptoBulk d := by
  obtain ⟨fuel, hf⟩ := hd
  rcases open_slice ht hf with ⟨hcs, hx⟩ | ⟨a, len, cap, m, n, D, Pl, hcs, _, hl, hm, hmm, hx, hcell⟩
  · simp only [List.cons.injEq, and_true] at hcs
    subst hcs
    simp only [Prod.mk.injEq] at hx
    exact ⟨none, 0, [], [], rfl, Nat.le_refl _, Nat.zero_le _, rfl, fun k h => absurd h (by simp), by simp, by simp⟩
  · simp only [List.cons.injEq, and_true] at hcs
    subst hcs
    simp only [if_true] at hmm
    subst hmm
    simp only [Prod.mk.injEq] at hx
    obtain ⟨X, hX⟩ := choose_lt (α := List Value × α) (p := fun i x => x.1.length = fs.size ∧ (∀ j u, x.1[j]? = some u → w.cell? (a.add (i * fs.size + j)) = some u) ∧ El x.1 x.2 ∧ wt x.2 ≤ Rows.uptoBulk (D i)) (n := len) (fun i hi => by
      obtain ⟨cs', hc, ht'⟩ := hcell i (by omega)
      rw [hC] at hc
      obtain ⟨ys, n', hn', hy, hlen, hyl, hf⟩ := DataW.trod_struct he ht'
      obtain ⟨_, hcl, hat⟩ := World.cells?_some hc
      simp only [Prod.mk.injEq] at hy
      obtain ⟨x, hx1, hx2⟩ := hel cs' ys n' hcl hyl (fun j f hj => by
        obtain ⟨ho, hk⟩ := hone_of hone j f hj
        have hjl : j < fs.size := (Array.getElem?_eq_some_iff.1 hj).1
        have hv : cs'[j]? = some (cs'[j]'(by omega)) := List.getElem?_eq_getElem (by omega)
        have h1 := hf j f hj
        rw [ho, hk] at h1
        have hone' : (cs'.drop j).take 1 = [cs'[j]'(by omega)] := by
          rw [List.drop_eq_getElem_cons (by omega)]
          rfl
        rw [hone'] at h1
        have hys : ys[j]? = some (ys[j]'(by omega)) := List.getElem?_eq_getElem (by omega)
        exact ⟨_, _, hv, hys, h1.trans hys⟩)
      refine ⟨(cs', x), hcl, fun j u hu => ?_, hx1, ?_⟩
      · have hj : j < fs.size := by
          have h1 : j < cs'.length := (List.getElem?_eq_some_iff.1 hu).1
          omega
        rw [← Go.Deep.add_add, hat j hj]
        exact hu
      · rw [hy.1]; exact hx2)
    refine ⟨some a, m, (List.range len).map (fun i => (X i).2), (List.range len).map (fun i => (X i).1), by simp, by simpa using hl, hm, by simp, ?_, ?_, ?_⟩
    · intro k h
      have hk : k < len := by simpa using h
      refine ⟨a, rfl, fun j u hu => (hX k hk).2.1 j u ?_⟩
      simpa using hu
    · intro k h h'
      have hk : k < len := by simpa using h
      simpa using (hX k hk).2.2.1
    · rw [hx.1, Rows.uptoBulk, List.map_map]
      have := bulkAll_range len D (fun i => wt (X i).2) (fun i hi => (hX i hi).2.2.2)
      have e : ((List.range len).map (wt ∘ fun i => (X i).2)).sum = ((List.range len).map (fun i => wt (X i).2)).sum := rfl
      omega
end

section
variable {H : Type} {enc : TypeId × Value → H} {w : World} {base : Nat} {held : Bool}
instance : Inhabited Stp := ⟨⟨0, 0, []⟩⟩
instance : Inhabited Blk := ⟨⟨0, [], 0⟩⟩
set_option maxRecDepth 100000 in
theorem open_stps {r : Reach} {b0 : Nat} {v : Value} {d : DataW H} {ps : List MemPlace} (hval : Value.okWide Try.prog w r b0 34 v) (hd : DataW.Trod enc Try.prog w base (fun _ => true) held 34 v d ps) :
    ∃ A c, ∃ l : List Stp, v = .slice A l.length c ∧ l.length ≤ c ∧ c ≤ maxLen ∧ IsRows w 3 A (l.map stpV) ∧ (∀ o ∈ l, -9223372036854775808 ≤ o.from' ∧ o.from' ≤ 9223372036854775807 ∧ -9223372036854775808 ≤ o.count ∧ o.count ≤ 9223372036854775807) ∧ (l.map fun o => o.t.length + 1).sum ≤ Rows.uptoBulk d := by
  obtain ⟨A, c, l, V, h1, h2, h3, h4, h5, h6, h7⟩ := open_rows (α := Stp) (fun vs x => vs = stpV x ∧ (-9223372036854775808 ≤ x.from' ∧ x.from' ≤ 9223372036854775807 ∧ -9223372036854775808 ≤ x.count ∧ x.count ≤ 9223372036854775807)) (fun x => x.t.length + 1) Try.underlying34 Try.underlying46 (by kernel_rfl) (by kernel_rfl) (fun vs ys n hv hy hf => by
    obtain ⟨v0, y0, a0, _, t0⟩ := hf 0 _ rfl
    obtain ⟨v1, y1, a1, _, t1⟩ := hf 1 _ rfl
    obtain ⟨v2, y2, a2, c2, t2⟩ := hf 2 _ rfl
    obtain ⟨m0, e0, _, k0⟩ := DataW.trod_int Try.underlying3 t0
    obtain ⟨m1, e1, _, k1⟩ := DataW.trod_int Try.underlying3 t1
    obtain ⟨m2, e2, f2, _⟩ := trod_str Try.underlying9 t2
    simp only [List.cons.injEq, and_true] at e0 e1
    subst e0 e1 e2 f2
    have l0 := bounds_i64 k0
    have l1 := bounds_i64 k1
    refine ⟨⟨m0, m1, m2⟩, ⟨?_, l0.1, l0.2, l1.1, l1.2⟩, ?_⟩
    · match vs, hv with
      | [b0, b1, b2], _ =>
        simp at a0 a1 a2
        rw [a0, a1, a2]; rfl
    · match ys, hy with
      | [z0, z1, z2], _ =>
        simp at c2
        subst c2
        simp only [List.map_cons, List.map_nil, Rows.uptoBulk, Rows.uptoBulkAll]
        omega) hval hd
  have hV : V = l.map stpV := List.ext_getElem (by rw [h4, List.length_map]) (fun k h h' => by rw [(h6 k (by simpa using h') h).1]; simp)
  subst hV
  refine ⟨A, c, l, h1, h2, h3, h5, fun o ho => ?_, h7⟩
  obtain ⟨k, hk, rfl⟩ := List.getElem_of_mem ho
  exact (h6 k hk (by simpa using hk)).2
set_option maxRecDepth 100000 in
theorem open_blks {v : Value} {d : DataW H} {ps : List MemPlace} (hd : ∃ fuel, DataW.trod enc Try.prog w base (fun _ => true) held fuel 22 [v] = some (d, ps)) :
    ∃ A c, ∃ l : List Blk, v = .slice A l.length c ∧ l.length ≤ c ∧ c ≤ maxLen ∧ IsRows w 3 A (l.map blkV) ∧ (∀ b ∈ l, b.w < 4294967296) ∧ (l.map fun _ => 1).sum ≤ Rows.uptoBulk d := by
  obtain ⟨A, c, l, V, h1, h2, h3, h4, h5, h6, h7⟩ := open_rowsT (α := Blk) (fun vs x => vs = blkV x ∧ x.w < 4294967296) (fun _ => 1) Try.underlying22 Try.underlying33 (by kernel_rfl) (by kernel_rfl) (fun vs ys n hv hy hf => by
    obtain ⟨v0, y0, a0, _, t0⟩ := hf 0 _ rfl
    obtain ⟨v1, y1, a1, _, t1⟩ := hf 1 _ rfl
    obtain ⟨v2, y2, a2, _, t2⟩ := hf 2 _ rfl
    obtain ⟨m0, e0, _, k0⟩ := DataW.trod_int Try.underlying31 t0
    obtain ⟨m1, e1, _, _⟩ := trod_str Try.underlying9 t1
    obtain ⟨m2, e2, _, k2⟩ := DataW.trod_int Try.underlying3 t2
    simp only [List.cons.injEq, and_true] at e0 e2
    subst e0 e1 e2
    have l0 := bounds_u32 k0
    obtain ⟨m, rfl⟩ := Int.eq_ofNat_of_zero_le l0.1
    refine ⟨⟨m, m1, m2⟩, ⟨?_, by have := l0.2; show m < 4294967296; omega⟩, bulk_one _⟩
    match vs, hv with
    | [b0, b1, b2], _ =>
      simp at a0 a1 a2
      rw [a0, a1, a2]; rfl) hd
  have hV : V = l.map blkV := List.ext_getElem (by rw [h4, List.length_map]) (fun k h h' => by rw [(h6 k (by simpa using h') h).1]; simp)
  subst hV
  refine ⟨A, c, l, h1, h2, h3, h5, fun o ho => ?_, h7⟩
  obtain ⟨k, hk, rfl⟩ := List.getElem_of_mem ho
  exact (h6 k hk (by simpa using hk)).2
end

/-- the cells of rows one behind the other -/
theorem rows_cells {α : Type} {enc : α → List Value} {m : Nat} (hm : ∀ x, (enc x).length = m) (h0 : 0 < m) {w : World} {ad : Addr} {l : List α} (h : IsRows w m (some ad) (l.map enc)) : ∀ j u, (rowsE enc l)[j]? = some u → w.cell? (ad.add j) = some u := by
  intro j u hu
  have hj : j < (rowsE enc l).length := (List.getElem?_eq_some_iff.1 hu).1
  rw [rowsE_length hm] at hj
  have hk : j / m < l.length := by rw [Nat.div_lt_iff_lt_mul h0]; exact hj
  have hi : j % m < m := Nat.mod_lt _ h0
  have e : j = j / m * m + j % m := by have := Nat.div_add_mod j m; rw [Nat.mul_comm] at this; omega
  obtain ⟨ad', ha, hc⟩ := h (j / m) (by simpa using hk)
  injection ha with ha
  subst ha
  have e1 : (l.map enc)[j / m]'(by simpa using hk) = enc l[j / m] := by simp
  rw [e1] at hc
  have h2 := rowsE_get hm l (j / m) hk (j % m) hi
  rw [← e, hu] at h2
  have := hc (j % m) u h2.symm
  rwa [← e] at this
theorem sum_mem (l : List Stp) (o : Stp) (ho : o ∈ l) : o.t.length + 1 ≤ (l.map fun o => o.t.length + 1).sum := by
  induction l with
  | nil => cases ho
  | cons x l ih =>
    simp only [List.map_cons, List.sum_cons]
    rcases List.mem_cons.1 ho with rfl | ho
    · omega
    · have := ih ho; omega
theorem newP_sum (l : List Stp) : newP l + l.length = (l.map fun o => o.t.length + 1).sum := by
  induction l with
  | nil => rfl
  | cons x l ih => simp only [List.map_cons, List.sum_cons, newP, List.length_cons]; omega
end Go.Proofs.Ytgohhhfnffhgmaa
