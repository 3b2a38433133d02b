/- Texts joined: RowsE, ProfOpen, Two, Only, ProfSt, Loads, Prof1. -/
import Derived.Test.YtoifnnhbejofjaaDoorBProfBaseA4
import Derived.Test.YtoifnnhbejofjaaDoorBProfBaseA1
import Derived.Deep.MidRow
import Derived.Test.YtoifnnhbejofjaaDoorBProfBaseA2
import Derived.OwnWalk
import Derived.ArgAppend
import Derived.Shelf.Strings.SlTrimAscii
set_option linter.unusedSimpArgs false
set_option linter.unusedVariables false

/- Rows of structs: a list of values, each of so many cells, in a row of the call's own. -/
section
namespace Go.Proofs.YtoifnnhbejofjaaDoor
open Go.RowKit

section
variable {α : Type}
def rowsE (enc : α → List Value) (l : List α) : List Value := l.flatMap enc
variable {enc : α → List Value} {m : Nat}
theorem rowsE_cons (x : α) (l : List α) : rowsE enc (x :: l) = enc x ++ rowsE enc l := by simp [rowsE]
theorem rowsE_append (l k : List α) : rowsE enc (l ++ k) = rowsE enc l ++ rowsE enc k := by simp [rowsE]
theorem rowsE_one (x : α) : rowsE enc [x] = enc x := by simp [rowsE]
theorem rowsE_nil : rowsE enc [] = [] := rfl
theorem rowsE_length (hm : ∀ x, (enc x).length = m) (l : List α) : (rowsE enc l).length = l.length * m := by
  induction l with
  | nil => simp [rowsE]
  | cons x l ih => rw [rowsE_cons, List.length_append, hm, ih, List.length_cons, Nat.add_mul]; omega
theorem rowsE_oneCell (h1 : ∀ x, ∀ u ∈ enc x, u.oneCell' = true) (l : List α) : ∀ u ∈ rowsE enc l, u.oneCell' = true := by
  intro u hu
  obtain ⟨x, -, hx⟩ := List.mem_flatMap.1 hu
  exact h1 x u hx
theorem rowsE_get (hm : ∀ x, (enc x).length = m) (l : List α) : ∀ (j : Nat) (h : j < l.length) (i : Nat), i < m → (rowsE enc l)[j * m + i]? = (enc l[j])[i]? := by
  induction l with
  | nil => intro j h; simp at h
  | cons x l ih =>
    intro j h i hi
    rw [rowsE_cons]
    cases j with
    | zero => rw [List.getElem?_append_left (by rw [hm]; omega)]; simp
    | succ j =>
      rw [List.getElem?_append_right (by rw [hm, Nat.add_mul]; omega), hm, List.getElem_cons_succ, ← ih j (by simpa using h) i hi]
      congr 1; rw [Nat.add_mul]; omega
theorem rowsE_set (hm : ∀ x, (enc x).length = m) (l : List α) : ∀ (j : Nat) (_ : j < l.length) (x : α), rowsE enc (l.set j x) = (rowsE enc l).take (j * m) ++ enc x ++ (rowsE enc l).drop (j * m + m) := by
  induction l with
  | nil => intro j h; simp at h
  | cons y l ih =>
    intro j h x
    cases j with
    | zero =>
      rw [List.set_cons_zero, rowsE_cons, rowsE_cons]
      simp [hm]
    | succ j =>
      rw [List.set_cons_succ, rowsE_cons, rowsE_cons, ih j (by simpa using h) x]
      have h1 : (enc y).take ((j + 1) * m) = enc y := List.take_of_length_le (by rw [hm, Nat.add_mul]; omega)
      have h2 : (enc y).drop ((j + 1) * m + m) = [] := List.drop_eq_nil_of_le (by rw [hm, Nat.add_mul]; omega)
      rw [List.take_append, List.drop_append, hm, h1, h2]
      rw [show (j + 1) * m - m = j * m by rw [Nat.add_mul]; omega, show (j + 1) * m + m - m = j * m + m by rw [Nat.add_mul]; omega]
      simp
theorem rows_mid {A vs : List Value} {o k : Nat} (hv : vs.length = m) (h1 : o + m ≤ k) (h2 : k ≤ A.length) : (A.take o ++ vs ++ A.drop (o + m)).take k = (A.take k).take o ++ vs ++ (A.take k).drop (o + m) := by
  have hl : (A.take o ++ vs).length = o + m := by simp [hv]; omega
  rw [List.take_append, hl, List.take_of_length_le (by omega), List.take_take, Nat.min_eq_left (by omega), List.drop_take]

variable {w w' : World} {base g c : Nat} {t : TypeId} {l : List α}
theorem rowsE_some {v : Value} (h : w.ownsRow base t m v l.length (rowsE enc l)) (hn : 0 < l.length) : ∃ g c, v = .slice (some ⟨g, 0, none⟩) l.length c ∧ base ≤ g ∧ g < w.heap.size := by
  rcases h.2 with ⟨h1, h2⟩ | ⟨g, cap, cur, h1, h2, h3, -⟩
  · omega
  · exact ⟨g, cap, h1, h2, (Array.getElem?_eq_some_iff.1 h3).1⟩
theorem rowsE_cell (hm : ∀ x, (enc x).length = m) (h : w.ownsRow base t m (.slice (some ⟨g, 0, none⟩) l.length c) l.length (rowsE enc l)) {j : Nat} (hj : j < l.length) {i : Nat} (hi : i < m) : w.cell? ⟨g, j * m + i, none⟩ = (enc l[j])[i]? := by
  have h1 := rowsE_get hm l j hj i hi
  have h2 : i < (enc l[j]).length := by rw [hm]; exact hi
  rw [List.getElem?_eq_getElem h2] at h1 ⊢
  have := h.cells (g := g) rfl (j * m + i) _ h1
  simpa [Addr.add_mid] using this
theorem rowsE_frozen (h : w.ownsRow base t m (.slice (some ⟨g, 0, none⟩) l.length c) l.length (rowsE enc l)) (i : Nat) : w.frozen? ⟨g, i, none⟩ = false := by
  rcases h.2 with ⟨h1, h2⟩ | ⟨g', cap, cur, h1, h2, h3, -⟩
  · cases h1
  · injection h1 with h1 _ _
    injection h1 with h1
    injection h1 with h1 _ _
    subst h1
    exact frozen_of_row w g _ _ _ h3
theorem rowsE_there (hm : ∀ x, (enc x).length = m) (h : w.ownsRow base t m (.slice (some ⟨g, 0, none⟩) l.length c) l.length (rowsE enc l)) {j : Nat} (hj : j < l.length) : w.there g (j * m) m := by
  intro i hi
  refine ⟨?_, rowsE_frozen h _⟩
  rw [rowsE_cell hm h hj hi, List.getElem?_eq_getElem (by rw [hm]; exact hi)]; rfl
theorem rowsE_range (hm : ∀ x, (enc x).length = m) (h : w.ownsRow base t m (.slice (some ⟨g, 0, none⟩) l.length c) l.length (rowsE enc l)) {j : Nat} (hj : j < l.length) : w.rangeAt g (j * m) (enc l[j]) := by
  intro i v hv
  have hi : i < m := by have := (List.getElem?_eq_some_iff.1 hv).1; rwa [hm] at this
  rw [rowsE_cell hm h hj hi]; exact hv
theorem rowsE_setrow (hm : ∀ x, (enc x).length = m) (h : w.ownsRow base t m (.slice (some ⟨g, 0, none⟩) l.length c) l.length (rowsE enc l)) {j : Nat} (hj : j < l.length) (x : α) :
    (w.setCells g (j * m) (enc x)).ownsRow base t m (.slice (some ⟨g, 0, none⟩) l.length c) l.length (rowsE enc (l.set j x)) ∧ w.grownBy (w.setCells g (j * m) (enc x)) (some g) := by
  rcases h.2 with ⟨h1, h2⟩ | ⟨g', cap, cur, h1, h2, h3, h4, h5, h6, h7⟩
  · cases h1
  · injection h1 with h1 _ h1c
    injection h1 with h1
    injection h1 with h1 _ _
    subst h1 h1c
    have hle : (j + 1) * m ≤ l.length * m := Nat.mul_le_mul_right m hj
    have hle2 : l.length * m ≤ c * m := Nat.mul_le_mul_right m h4
    rw [Nat.add_mul] at hle
    obtain ⟨e1, e2, e3⟩ := heap_setCells (enc x) (j * m) cur w h3 (by rw [hm, h6]; omega)
    rw [hm] at e1
    refine ⟨⟨by rw [rowsE_length hm, List.length_set], .inr ⟨g, c, _, rfl, h2, e1, h4, h5, ?_, ?_⟩⟩, e2⟩
    · simp [hm]; omega
    · show (List.take _ _) = _
      rw [rows_mid (hm x) (by omega) (by simp; omega), h7, rowsE_set hm l j hj x]
/-- one cell of a row is stored -/
theorem rowsE_setcell (hm : ∀ x, (enc x).length = m) (h : w.ownsRow base t m (.slice (some ⟨g, 0, none⟩) l.length c) l.length (rowsE enc l)) {j : Nat} (hj : j < l.length) {i : Nat} (hi : i < m) (u : Value) (x : α) (hx : enc x = (enc l[j]).set i u) :
    (w.setCell ⟨g, j * m + i, none⟩ u).ownsRow base t m (.slice (some ⟨g, 0, none⟩) l.length c) l.length (rowsE enc (l.set j x)) ∧ w.grownBy (w.setCell ⟨g, j * m + i, none⟩ u) (some g) := by
  have hle : (j + 1) * m ≤ l.length * m := Nat.mul_le_mul_right m hj
  rw [Nat.add_mul] at hle
  refine ⟨?_, gb_set (gb_refl w _) (.inl rfl) u⟩
  rcases h.2 with ⟨h1, h2⟩ | ⟨g', cap, cur, h1, h2, h3, h4, h5, h6, h7⟩
  · cases h1
  · injection h1 with h1 _ h1c
    injection h1 with h1
    injection h1 with h1 _ _
    subst h1 h1c
    refine ⟨by rw [rowsE_length hm, List.length_set], .inr ⟨g, c, _, rfl, h2, heap_set h3 _ u, h4, h5, by simpa using h6, ?_⟩⟩
    rw [Array.toList_setIfInBounds, List.take_set, h7, rowsE_set hm l j hj x, hx]
    have hl := rowsE_length hm l
    have hlj := hm l[j]
    have e1 : (rowsE enc l).take (j * m) ++ enc l[j] ++ (rowsE enc l).drop (j * m + m) = rowsE enc l := by
      rw [← rowsE_set hm l j hj l[j]]; simp
    conv => lhs; rw [← e1]
    rw [List.append_assoc, List.append_assoc, List.set_append_right _ _ (by simp; omega), List.length_take, hl, Nat.min_eq_left (by omega), show j * m + i - j * m = i by omega, List.set_append_left _ _ (by omega)]
end
end Go.Proofs.YtoifnnhbejofjaaDoor
end

/- Opening of arguments: texts with names, a profile. -/
section
namespace Go.Proofs.YtoifnnhbejofjaaDoor
open Go.ChangeShapes Go.WideShapes Go.ChangeAt Go.RowKit Go.Deep Plain

def rulV (r : Rule) : List Value := [.bool r.ign, .string ⟨r.pat.toArray⟩]
def pgmV (x : Prg) : List Value := [.string ⟨x.name.toArray⟩, .string ⟨x.pat.toArray⟩]
def txtV (x : Txt) : List Value := [.string ⟨x.name.toArray⟩, .string ⟨x.text.toArray⟩]
theorem rulV_length (x : Rule) : (rulV x).length = 2 := rfl
theorem pgmV_length (x : Prg) : (pgmV x).length = 2 := rfl
theorem txtV_length (x : Txt) : (txtV x).length = 2 := rfl
def OkNum (n : Int) : Prop := -9223372036854775808 ≤ n ∧ n ≤ 9223372036854775807
instance : Inhabited Txt := ⟨⟨[], []⟩⟩
instance inhRule : Inhabited Rule := ⟨⟨[], false⟩⟩
instance inhPrg : Inhabited Prg := ⟨⟨[], []⟩⟩

section
variable {H : Type} {enc : TypeId × Value → H} {w : World} {base : Nat} {held : Bool}
set_option maxRecDepth 100000 in
theorem open_txts {r : Reach} {b0 : Nat} {v : Value} {d : DataW H} {ps : List MemPlace} (hval : Value.okWide Tryd.prog w r b0 22 v) (hd : DataW.Trod enc Tryd.prog w base (fun _ => true) held 22 v d ps) :
    ∃ A c, ∃ l : List Txt, v = .slice A l.length c ∧ l.length ≤ c ∧ c ≤ maxLen ∧ IsRows w 2 A (l.map txtV) ∧ (∀ o ∈ l, o.name.length ≤ 9223372036854775807 ∧ o.text.length ≤ 9223372036854775807) ∧ (l.map fun o => o.name.length + o.text.length + 1).sum ≤ Rows.uptoBulk d := by
  obtain ⟨A, c, l, V, h1, h2, h3, h4, h5, h6, h7⟩ := open_rows (α := Txt) (fun vs x => vs = txtV x ∧ x.name.length ≤ 9223372036854775807 ∧ x.text.length ≤ 9223372036854775807) (fun x => x.name.length + x.text.length + 1) Tryd.underlying22 Tryd.underlying29 (by kernel_rfl) (by kernel_rfl) (fun vs ys n hv hy hf => by
    obtain ⟨v0, y0, a0, c0, t0⟩ := hf 0 _ rfl
    obtain ⟨v1, y1, a1, c1, t1⟩ := hf 1 _ rfl
    obtain ⟨m0, e0, f0, l0⟩ := trod_str Tryd.underlying9 t0
    obtain ⟨m1, e1, f1, l1⟩ := trod_str Tryd.underlying9 t1
    unfold maxLen at l0 l1
    subst e0 e1 f0 f1
    refine ⟨⟨m0, m1⟩, ⟨?_, l0, l1⟩, ?_⟩
    · match vs, hv with
      | [b0, b1], _ =>
        simp at a0 a1
        rw [a0, a1]; rfl
    · match ys, hy with
      | [z0, z1], _ =>
        simp at c0 c1
        subst c0 c1
        simp only [List.map_cons, List.map_nil, Rows.uptoBulk, Rows.uptoBulkAll]
        omega) hval hd
  have hV : V = l.map txtV := List.ext_getElem (by rw [h4, List.length_map]) (fun k h h' => by rw [(h6 k (by simpa using h') h).1]; simp)
  subst hV
  refine ⟨A, c, l, h1, h2, h3, h5, fun o ho => ?_, h7⟩
  obtain ⟨k, hk, rfl⟩ := List.getElem_of_mem ho
  exact (h6 k hk (by simpa using hk)).2
set_option maxRecDepth 100000 in
theorem open_rulesT {v : Value} {d : DataW H} {ps : List MemPlace} (hd : ∃ fuel, DataW.trod enc Tryd.prog w base (fun _ => true) held fuel 24 [v] = some (d, ps)) :
    ∃ A c, ∃ l : List Rule, v = .slice A l.length c ∧ l.length ≤ c ∧ c ≤ maxLen ∧ IsRows w 2 A (l.map rulV) ∧ (∀ o ∈ l, o.pat.length ≤ 9223372036854775807) ∧ (l.map fun o => o.pat.length + 1).sum ≤ Rows.uptoBulk d := by
  obtain ⟨A, c, l, V, h1, h2, h3, h4, h5, h6, h7⟩ := open_rowsT (α := Rule) (fun vs x => vs = rulV x ∧ x.pat.length ≤ 9223372036854775807) (fun x => x.pat.length + 1) Tryd.underlying24 Tryd.underlying67 (by kernel_rfl) (by kernel_rfl) (fun vs ys n hv hy hf => by
    obtain ⟨v0, y0, a0, c0, t0⟩ := hf 0 _ rfl
    obtain ⟨v1, y1, a1, c1, t1⟩ := hf 1 _ rfl
    obtain ⟨m0, e0, f0⟩ := DataW.trod_bool Tryd.underlying4 t0
    obtain ⟨m1, e1, f1, l1⟩ := trod_str Tryd.underlying9 t1
    unfold maxLen at l1
    simp only [List.cons.injEq, and_true] at e0
    subst e0 e1 f1
    refine ⟨⟨m1, m0⟩, ⟨?_, l1⟩, ?_⟩
    · match vs, hv with
      | [b0, b1], _ =>
        simp at a0 a1
        rw [a0, a1]; rfl
    · match ys, hy with
      | [z0, z1], _ =>
        simp at c1
        subst c1
        simp only [List.map_cons, List.map_nil, Rows.uptoBulk, Rows.uptoBulkAll]
        omega) hd
  have hV : V = l.map rulV := List.ext_getElem (by rw [h4, List.length_map]) (fun k h h' => by rw [(h6 k (by simpa using h') h).1]; simp)
  subst hV
  refine ⟨A, c, l, h1, h2, h3, h5, fun o ho => ?_, h7⟩
  obtain ⟨k, hk, rfl⟩ := List.getElem_of_mem ho
  exact (h6 k hk (by simpa using hk)).2
set_option maxRecDepth 100000 in
theorem open_pgmsT {v : Value} {d : DataW H} {ps : List MemPlace} (hd : ∃ fuel, DataW.trod enc Tryd.prog w base (fun _ => true) held fuel 25 [v] = some (d, ps)) :
    ∃ A c, ∃ l : List Prg, v = .slice A l.length c ∧ l.length ≤ c ∧ c ≤ maxLen ∧ IsRows w 2 A (l.map pgmV) ∧ (∀ o ∈ l, o.name.length ≤ 9223372036854775807 ∧ o.pat.length ≤ 9223372036854775807) ∧ (l.map fun o => o.name.length + o.pat.length + 1).sum ≤ Rows.uptoBulk d := by
  obtain ⟨A, c, l, V, h1, h2, h3, h4, h5, h6, h7⟩ := open_rowsT (α := Prg) (fun vs x => vs = pgmV x ∧ x.name.length ≤ 9223372036854775807 ∧ x.pat.length ≤ 9223372036854775807) (fun x => x.name.length + x.pat.length + 1) Tryd.underlying25 Tryd.underlying54 (by kernel_rfl) (by kernel_rfl) (fun vs ys n hv hy hf => by
    obtain ⟨v0, y0, a0, c0, t0⟩ := hf 0 _ rfl
    obtain ⟨v1, y1, a1, c1, t1⟩ := hf 1 _ rfl
    obtain ⟨m0, e0, f0, l0⟩ := trod_str Tryd.underlying9 t0
    obtain ⟨m1, e1, f1, l1⟩ := trod_str Tryd.underlying9 t1
    unfold maxLen at l0 l1
    subst e0 e1 f0 f1
    refine ⟨⟨m0, m1⟩, ⟨?_, l0, l1⟩, ?_⟩
    · match vs, hv with
      | [b0, b1], _ =>
        simp at a0 a1
        rw [a0, a1]; rfl
    · match ys, hy with
      | [z0, z1], _ =>
        simp at c0 c1
        subst c0 c1
        simp only [List.map_cons, List.map_nil, Rows.uptoBulk, Rows.uptoBulkAll]
        omega) hd
  have hV : V = l.map pgmV := List.ext_getElem (by rw [h4, List.length_map]) (fun k h h' => by rw [(h6 k (by simpa using h') h).1]; simp)
  subst hV
  refine ⟨A, c, l, h1, h2, h3, h5, fun o ho => ?_, h7⟩
  obtain ⟨k, hk, rfl⟩ := List.getElem_of_mem ho
  exact (h6 k hk (by simpa using hk)).2

/-- A profile as a value, its rows in the world w. -/
def pfV (A0 : Option Addr) (c0 : Nat) (A1 : Option Addr) (c1 : Nat) (A2 : Option Addr) (c2 : Nat) (p : PF) : Value :=
  .agg #[.slice A0 p.ign.length c0, .slice A1 p.bak.length c1, .slice A2 p.mrg.length c2, .int .i64 p.pre, .int .i64 p.frc, .bool p.bat, .bool p.fst]
structure PfAt (w : World) (A0 : Option Addr) (c0 : Nat) (A1 : Option Addr) (c1 : Nat) (A2 : Option Addr) (c2 : Nat) (p : PF) : Prop where
  ign : IsRows w 2 A0 (p.ign.map rulV)
  bak : IsRows w 2 A1 (p.bak.map rulV)
  mrg : IsRows w 2 A2 (p.mrg.map pgmV)
  cap : p.ign.length ≤ c0 ∧ p.bak.length ≤ c1 ∧ p.mrg.length ≤ c2
  len : c0 ≤ maxLen ∧ c1 ≤ maxLen ∧ c2 ≤ maxLen
theorem PfAt.below {w w' : World} {A0 A1 A2 : Option Addr} {c0 c1 c2 : Nat} {p : PF} (h : PfAt w A0 c0 A1 c1 A2 c2 p) (hb : Below w.heap.size w w') : PfAt w' A0 c0 A1 c1 A2 c2 p :=
  ⟨h.ign.below hb, h.bak.below hb, h.mrg.below hb, h.cap, h.len⟩
/-- The numbers and lengths of a profile that came in. -/
structure OkPF (p : PF) : Prop where
  pre : OkNum p.pre
  frc : OkNum p.frc
  ign : ∀ o ∈ p.ign, o.pat.length ≤ 9223372036854775807
  bak : ∀ o ∈ p.bak, o.pat.length ≤ 9223372036854775807
  mrg : ∀ o ∈ p.mrg, o.name.length ≤ 9223372036854775807 ∧ o.pat.length ≤ 9223372036854775807
set_option maxRecDepth 100000 in
theorem open_pf {r : Reach} {b0 : Nat} {v : Value} {d : DataW H} {ps : List MemPlace} (hval : Value.okWide Tryd.prog w r b0 27 v) (hd : DataW.Trod enc Tryd.prog w base (fun _ => true) held 27 v d ps) :
    ∃ A0 c0 A1 c1 A2 c2 p, v = pfV A0 c0 A1 c1 A2 c2 p ∧ PfAt w A0 c0 A1 c1 A2 c2 p ∧ OkPF p ∧
      (p.ign.map fun o => o.pat.length + 1).sum + (p.bak.map fun o => o.pat.length + 1).sum + (p.mrg.map fun o => o.name.length + o.pat.length + 1).sum ≤ Rows.uptoBulk d := by
  obtain ⟨vs, ys, n, rfl, hv, hy, rfl, hf⟩ := open_aggN Tryd.underlying27 (by kernel_rfl) (by kernel_rfl) hval hd
  obtain ⟨v0, y0, a0, b0, t0⟩ := hf 0 _ rfl
  obtain ⟨v1, y1, a1, b1, t1⟩ := hf 1 _ rfl
  obtain ⟨v2, y2, a2, b2, t2⟩ := hf 2 _ rfl
  obtain ⟨v3, y3, a3, b3, t3⟩ := hf 3 _ rfl
  obtain ⟨v4, y4, a4, b4, t4⟩ := hf 4 _ rfl
  obtain ⟨v5, y5, a5, b5, t5⟩ := hf 5 _ rfl
  obtain ⟨v6, y6, a6, b6, t6⟩ := hf 6 _ rfl
  obtain ⟨A0, c0, l0, e0, f0, g0, i0, j0, k0⟩ := open_rulesT (d := y0.1) (ps := y0.2) ⟨n, t0⟩
  obtain ⟨A1, c1, l1, e1, f1, g1, i1, j1, k1⟩ := open_rulesT (d := y1.1) (ps := y1.2) ⟨n, t1⟩
  obtain ⟨A2, c2, l2, e2, f2, g2, i2, j2, k2⟩ := open_pgmsT (d := y2.1) (ps := y2.2) ⟨n, t2⟩
  obtain ⟨m3, e3, _, k3⟩ := DataW.trod_int Tryd.underlying3 t3
  obtain ⟨m4, e4, _, k4⟩ := DataW.trod_int Tryd.underlying3 t4
  obtain ⟨m5, e5, _⟩ := DataW.trod_bool Tryd.underlying4 t5
  obtain ⟨m6, e6, _⟩ := DataW.trod_bool Tryd.underlying4 t6
  simp only [List.cons.injEq, and_true] at e3 e4 e5 e6
  subst e0 e1 e2 e3 e4 e5 e6
  refine ⟨A0, c0, A1, c1, A2, c2, ⟨l0, l1, l2, m3, m4, m5, m6⟩, ?_, ⟨i0, i1, i2, ⟨f0, f1, f2⟩, ⟨g0, g1, g2⟩⟩, ⟨bounds_i64 k3, bounds_i64 k4, j0, j1, j2⟩, ?_⟩
  · match vs, hv with
    | [q0, q1, q2, q3, q4, q5, q6], _ =>
      simp at a0 a1 a2 a3 a4 a5 a6
      rw [a0, a1, a2, a3, a4, a5, a6]; rfl
  · match ys, hy with
    | [z0, z1, z2, z3, z4, z5, z6], _ =>
      simp at b0 b1 b2
      subst b0 b1 b2
      simp only [List.map_cons, List.map_nil, Rows.uptoBulk, Rows.uptoBulkAll]
      omega
end
end Go.Proofs.YtoifnnhbejofjaaDoor
end

/- Two slices of the call's own that grow side by side: append tells where its result lies. -/
section
namespace Go.Proofs.YtoifnnhbejofjaaDoor
open Go.RowKit

theorem own_base {w : World} {base base' : Nat} {e : TypeId} {size n : Nat} {v : Value} {xs : List Value} (h : w.ownsRow base e size v n xs) (hb : base' ≤ base) : w.ownsRow base' e size v n xs :=
  ⟨h.1, h.2.imp id fun ⟨g, cap, cur, hv, hg, hr⟩ => ⟨g, cap, cur, hv, Nat.le_trans hb hg, hr⟩⟩

/-- v' lies where v lay, or in a block that is new. -/
def Lies (w : World) (v v' : Value) : Prop := ∀ k, v'.ownBlock = some k → v.ownBlock = some k ∨ w.heap.size ≤ k
/-- no block holds both -/
def Apart (v u : Value) : Prop := ∀ k, v.ownBlock = some k → u.ownBlock ≠ some k
theorem Apart.symm {v u : Value} (h : Apart v u) : Apart u v := fun k hu hv => h k hv hu
theorem Apart.nil (u : Value) (n c : Nat) : Apart (.slice none n c) u := fun k h => by cases h
theorem Apart.lies {w : World} {v v' u : Value} {base : Nat} {e : TypeId} {size n : Nat} {xs : List Value} (h : Apart v u) (hl : Lies w v v') (hu : w.ownsRow base e size u n xs) : Apart v' u := by
  intro k hk he
  rcases hl k hk with h1 | h1
  · exact h k h1 he
  · have := (hu.lt k he).2; omega
theorem Apart.kept {w w' : World} {v u : Value} {base : Nat} {e : TypeId} {size n : Nat} {xs : List Value} (h : Apart v u) (hu : w.ownsRow base e size u n xs) (hg : w.grownBy w' v.ownBlock) : w'.ownsRow base e size u n xs :=
  hu.kept hg (by
    cases hv : u.ownBlock with
    | none => exact .inl rfl
    | some k => exact .inr (fun e => h k e.symm hv))

theorem wpList_append_two {P : Program} {w : World} {ops : Array Oper} {rest : List Oper} {o : Oper} {a : Act} {Q : Exit → Act → World → Prop} (hgd : o.guard = none) (s x : Operand) (t : TypeId)
    (ho : o.op = .call { callee := .builtin .append, args := #[s, x], argTypes := #[t, t] })
    (base : Nat) (e : TypeId) (i : TypeInfo) (z : Value) (size bytes : Nat) (ht : P.underlying t = some (.slice e)) (hi : P.info? e = some i) (hz : i.zero = some z)
    (hsize : i.size = size) (hby : i.bytes = bytes) (hzs : z.cells.size = size) (hsz : 0 < size)
    (v : Value) (n : Nat) (xs : List Value) (hs : a.eval s = v) (hown : w.ownsRow base e size v n xs)
    (ad : Addr) (m c : Nat) (news : List Value) (hx : a.eval x = .slice (some ad) m c) (hl : news.length = m * size) (hnews : ∀ j u, news[j]? = some u → w.cell? (ad.add j) = some u) (h1 : ∀ u ∈ news, u.oneCell' = true)
    (h63 : n + m ≤ maxLen) (hbytes : (n + m) * bytes ≤ 140737488355328) (hbase : base ≤ w.heap.size)
    (h : ∀ v' w', w'.ownsRow base e size v' (n + m) (xs ++ news) → w.grownBy w' v.ownBlock → Lies w v v' → wpList P ops Q rest (a.put o.dst v') w') : wpList P ops Q (o :: rest) a w := by
  rcases hown.2 with ⟨hv, hn⟩ | ⟨g, cap, cur, hv, hbg, hg, hnc, hcm, hcs, htake⟩
  · subst hv
    subst hn
    have hx0 : xs = [] := List.eq_nil_of_length_eq_zero (by simpa using hown.1)
    subst hx0
    exact wpList_append_own w hgd s x t ho w.heap.size e i z size bytes ht hi hz hsize hby hzs hsz _ _ _ hs (World.ownsRow_nil _ _ _ _) ad m c news hx hl hnews h1 h63 hbytes (Nat.le_refl _)
      fun v' w' h2 h3 _ => h v' w' (own_base h2 hbase) h3 (fun k hk => .inr (h2.lt k hk).1)
  · subst hv
    by_cases hroom : n + m ≤ cap
    · exact wpList_append_fits w hgd s x t ho base e i size ht hi hsize g n cap xs hs hown ad m c news hx hl hnews h1 hroom fun w' h2 h3 => h _ w' h2 h3 (fun k hk => .inl hk)
    · exact wpList_append_grows w hgd s x t ho e i z size bytes ht hi hz hsize hby hzs hsz (some ⟨g, 0, none⟩) n cap xs hs (fun e => by cases e) hown.1 (fun b hb j u hu => by
        injection hb with hb
        subst hb
        exact hown.cells (g := g) rfl j u hu) ad m c news hx hl hnews h1 (by omega) h63 hbytes
        fun v' w' h2 h3 => h v' w' (own_base h2 hbase) ⟨h3.os, h3.tape, h3.output, h3.size, fun k hk _ => h3.block k hk (by simp)⟩ (fun k hk => .inr (h2.lt k hk).1)
end Go.Proofs.YtoifnnhbejofjaaDoor
end

/- Only the blocks of a set, and what is new, have turned. -/
section
namespace Go.Proofs.YtoifnnhbejofjaaDoor
open Go.RowKit

structure Only (S : Nat → Prop) (w w' : World) : Prop where
  os : w'.os = w.os
  tape : w'.tape = w.tape
  output : w'.output = w.output
  size : w.heap.size ≤ w'.heap.size
  block : ∀ k, k < w.heap.size → ¬ S k → w'.heap[k]? = w.heap[k]?

/-- S, and what is new. -/
def Grow (S : Nat → Prop) (w w' : World) : Nat → Prop := fun b => S b ∨ (w.heap.size ≤ b ∧ b < w'.heap.size)
/-- All of S lies in the heap, and not below base. -/
def Lain (base : Nat) (S : Nat → Prop) (w : World) : Prop := ∀ b, S b → base ≤ b ∧ b < w.heap.size
def Dis (S T : Nat → Prop) : Prop := ∀ b, S b → ¬ T b

section
variable {S T : Nat → Prop} {a w w' : World} {base : Nat}
theorem Only.refl (S : Nat → Prop) (w : World) : Only S w w := ⟨rfl, rfl, rfl, Nat.le_refl _, fun _ _ _ => rfl⟩
theorem Only.trans (h : Only S a w) (k : Only S w w') : Only S a w' :=
  ⟨k.os.trans h.os, k.tape.trans h.tape, k.output.trans h.output, Nat.le_trans h.size k.size, fun i hi hn => (k.block i (Nat.lt_of_lt_of_le hi h.size) hn).trans (h.block i hi hn)⟩
/-- What is new may turn again. -/
theorem Only.more (h : Only S a w) (k : Only (Grow S a w) w w') : Only S a w' :=
  ⟨k.os.trans h.os, k.tape.trans h.tape, k.output.trans h.output, Nat.le_trans h.size k.size, fun i hi hn => (k.block i (Nat.lt_of_lt_of_le hi h.size) (fun g => by
    rcases g with g | g
    · exact hn g
    · omega)).trans (h.block i hi hn)⟩
theorem Only.of_below (h : Below w.heap.size w w') : Only S w w' := ⟨h.os, h.tape, h.output, h.size, fun k hk _ => h.block k hk⟩
theorem Only.of_below' {B : Nat} (h : Below B w w') (hS : ∀ b, B ≤ b → b < w.heap.size → S b) : Only S w w' := ⟨h.os, h.tape, h.output, h.size, fun k hk hn => h.block k (by
  by_cases hB : B ≤ k
  · exact absurd (hS k hB hk) hn
  · omega)⟩
theorem Only.of_gb {r : Option Nat} (h : w.grownBy w' r) (hr : ∀ k, r = some k → S k) : Only S w w' := ⟨h.os, h.tape, h.output, h.size, fun k hk hn => h.block k hk (fun e => hn (hr k e.symm))⟩
theorem Only.below (h : Only S a w) {B : Nat} (hB : B ≤ a.heap.size) (hS : ∀ b, S b → B ≤ b) : Below B a w :=
  ⟨h.os, h.tape, h.output, h.size, fun k hk => h.block k (Nat.lt_of_lt_of_le hk hB) (fun s => by have := hS k s; omega)⟩
theorem Only.mono (h : Only S w w') (hT : ∀ b, S b → T b) : Only T w w' := ⟨h.os, h.tape, h.output, h.size, fun k hk hn => h.block k hk (fun s => hn (hT k s))⟩
theorem Only.set (h : Only S a w) {p : Addr} (hp : S p.block ∨ a.heap.size ≤ p.block) (u : Value) : Only S a (w.setCell p u) :=
  ⟨h.os, h.tape, h.output, by simpa [World.setCell] using h.size, fun i hi hn => (Below.heap_setCell w p u i (by
    rintro rfl
    rcases hp with hp | hp
    · exact hn hp
    · omega)).trans (h.block i hi hn)⟩
theorem Only.alloc (h : Only S a w) (o : Obj) : Only S a (w.alloc o) := h.trans (Only.of_below ((Below.refl _ _).alloc (Nat.le_refl _) o))
theorem Only.drew (h : Only S a w) : Only S a w.drew := ⟨h.os, h.tape, h.output, h.size, h.block⟩
theorem Only.drewN (h : Only S a w) (n : Nat) : Only S a (w.drewN n) := ⟨h.os, h.tape, h.output, h.size, h.block⟩
theorem Lain.grow (h : Lain base S w) (hb : base ≤ w.heap.size) (hs : w.heap.size ≤ w'.heap.size) : Lain base (Grow S w w') w' := by
  rintro b (hb' | hb')
  · have := h b hb'; omega
  · omega
theorem Lain.mono (h : Lain base S w) (hs : w.heap.size ≤ w'.heap.size) : Lain base S w' := fun b hb => by have := h b hb; omega
theorem Dis.grow (h : Dis S T) (hT : Lain base T w) : Dis (Grow S w w') T := by
  rintro b (hb | hb) ht
  · exact h b hb ht
  · have := hT b ht; omega
theorem Dis.symm (h : Dis S T) : Dis T S := fun b hb ht => h b ht hb
theorem grow_in {b : Nat} (h : S b) : Grow S w w' b := .inl h
theorem own_only {e : TypeId} {size n : Nat} {v : Value} {xs : List Value} (h : w.ownsRow base e size v n xs) (ho : Only S w w') (hv : ∀ k, v.ownBlock = some k → ¬ S k) : w'.ownsRow base e size v n xs := by
  refine ⟨h.1, ?_⟩
  rcases h.2 with h2 | ⟨g, cap, cur, rfl, hbg, hg, hr⟩
  · exact .inl h2
  · refine .inr ⟨g, cap, cur, rfl, hbg, ?_, hr⟩
    rw [ho.block g (Array.getElem?_eq_some_iff.1 hg).1 (hv g rfl)]
    exact hg
end
end Go.Proofs.YtoifnnhbejofjaaDoor
end

/- The reader of profiles in memory: its block, and the rows that it owns. -/
section
set_option linter.unusedVariables false
namespace Go.Proofs.YtoifnnhbejofjaaDoor
open Go.RowKit Plain

theorem own_shorter {w : World} {base : Nat} {e : TypeId} {size n k : Nat} {A : Option Addr} {c : Nat} {xs : List Value} (h : w.ownsRow base e size (.slice A n c) n xs) (hk : k ≤ n) (hA : A ≠ none) : w.ownsRow base e size (.slice A k c) k (xs.take (k * size)) := by
  have hkn : k * size ≤ n * size := Nat.mul_le_mul_right _ hk
  refine ⟨by rw [List.length_take, h.1]; omega, ?_⟩
  rcases h.2 with ⟨hv, _⟩ | ⟨g, cap, cur, hv, hbg, hg, hnc, hcm, hcs, htake⟩
  · injection hv with h1 _ _
    exact absurd h1 hA
  · injection hv with h1 _ h3
    subst h1 h3
    refine .inr ⟨g, c, cur, rfl, hbg, hg, by omega, hcm, hcs, ?_⟩
    rw [← htake, List.take_take, Nat.min_eq_left hkn]

theorem own_unlikeT {w w' : World} {b b' : Nat} {e e' : TypeId} {size size' n n' : Nat} {v u : Value} {xs ys : List Value} (hv : w.ownsRow b e size v n xs) (hu : w.ownsRow b' e' size' u n' ys) (he : e ≠ e') (hg : w.grownBy w' u.ownBlock) : w'.ownsRow b e size v n xs := by
  refine ⟨hv.1, ?_⟩
  rcases hv.2 with h | ⟨g, cap, cur, rfl, hbg, hh, hr⟩
  · exact .inl h
  · refine .inr ⟨g, cap, cur, rfl, hbg, ?_, hr⟩
    rw [hg.block g (Array.getElem?_eq_some_iff.1 hh).1 (fun e1 => by
      rcases hu.2 with ⟨hv2, _⟩ | ⟨g2, cap2, cur2, rfl, _, hh2, _⟩
      · rw [hv2] at e1; cases e1
      · have e2 : g = g2 := by injection e1
        rw [← e2, hh] at hh2
        injection hh2 with hh2
        injection hh2 with _ h3 _
        exact he h3)]
    exact hh
theorem only_cell (w : World) (b i : Nat) (u : Value) : Only (fun k => k = b) w (w.setCell ⟨b, i, none⟩ u) := (Only.refl (fun k => k = b) w).set (p := ⟨b, i, none⟩) (.inl rfl) u
section
variable {S : Nat → Prop} {b base : Nat} {A : Option Addr} {n c : Nat} {inside : List (List UInt8)} {p : PF} {wh : Txt} {vl vi vb vm : Value} {w : World}
def rdC (vl : Value) (A : Option Addr) (n c : Nat) (vi vb vm : Value) (p : PF) (wh : Txt) : Array Value :=
  #[vl, .slice A n c, vi, vb, vm, .int .i64 p.pre, .int .i64 p.frc, .bool p.bat, .bool p.fst, .string ⟨wh.name.toArray⟩, .string ⟨wh.text.toArray⟩]
structure RdAt (S : Nat → Prop) (b base : Nat) (A : Option Addr) (n c : Nat) (inside : List (List UInt8)) (p : PF) (wh : Txt) (vl vi vb vm : Value) (w : World) : Prop where
  head : w.heap[b]? = some (.cells (rdC vl A n c vi vb vm p wh) 47 (0, 0))
  list : w.ownsRow base 9 1 vl inside.length (strs inside)
  ign : w.ownsRow base 67 2 vi p.ign.length (rowsE rulV p.ign)
  bak : w.ownsRow base 67 2 vb p.bak.length (rowsE rulV p.bak)
  mrg : w.ownsRow base 54 2 vm p.mrg.length (rowsE pgmV p.mrg)
  apart : Apart vi vb
  inS : S b ∧ (∀ k, vl.ownBlock = some k → S k) ∧ (∀ k, vi.ownBlock = some k → S k) ∧ (∀ k, vb.ownBlock = some k → S k) ∧ (∀ k, vm.ownBlock = some k → S k)
  lain : Lain b S w
  lt : b < base
def RdS (S : Nat → Prop) (b base : Nat) (A : Option Addr) (n c : Nat) (inside : List (List UInt8)) (p : PF) (wh : Txt) (w : World) : Prop := ∃ vl vi vb vm, RdAt S b base A n c inside p wh vl vi vb vm w

theorem RdAt.cells (h : RdAt S b base A n c inside p wh vl vi vb vm w) : w.cell? ⟨b, 0, none⟩ = some vl ∧ w.cell? ⟨b, 1, none⟩ = some (.slice A n c) ∧ w.cell? ⟨b, 2, none⟩ = some vi ∧ w.cell? ⟨b, 3, none⟩ = some vb ∧ w.cell? ⟨b, 4, none⟩ = some vm ∧
    w.cell? ⟨b, 9, none⟩ = some (.string ⟨wh.name.toArray⟩) ∧ w.cell? ⟨b, 10, none⟩ = some (.string ⟨wh.text.toArray⟩) :=
  ⟨cell_of_row _ _ 0 _ _ _ h.head, cell_of_row _ _ 1 _ _ _ h.head, cell_of_row _ _ 2 _ _ _ h.head, cell_of_row _ _ 3 _ _ _ h.head, cell_of_row _ _ 4 _ _ _ h.head, cell_of_row _ _ 9 _ _ _ h.head, cell_of_row _ _ 10 _ _ _ h.head⟩
theorem RdAt.hb (h : RdAt S b base A n c inside p wh vl vi vb vm w) : b < w.heap.size := (h.lain b h.inS.1).2
theorem RdAt.below {w' : World} (h : RdAt S b base A n c inside p wh vl vi vb vm w) (hb : Below w.heap.size w w') : RdAt S b base A n c inside p wh vl vi vb vm w' :=
  ⟨(hb.block _ h.hb).trans h.head, own_below h.list hb, own_below h.ign hb, own_below h.bak hb, own_below h.mrg hb, h.apart, h.inS, h.lain.mono hb.size, h.lt⟩
theorem RdS.below {w' : World} (h : RdS S b base A n c inside p wh w) (hb : Below w.heap.size w w') : RdS S b base A n c inside p wh w' := by
  obtain ⟨vl, vi, vb, vm, h⟩ := h; exact ⟨vl, vi, vb, vm, h.below hb⟩
/-- a greater set -/
theorem RdAt.more {w' : World} (h : RdAt S b base A n c inside p wh vl vi vb vm w) (hb : Below w.heap.size w w') : RdAt (Grow S w w') b base A n c inside p wh vl vi vb vm w' := by
  have h' := h.below hb
  refine ⟨h'.head, h'.list, h'.ign, h'.bak, h'.mrg, h'.apart, ⟨.inl h.inS.1, fun k hk => .inl (h.inS.2.1 k hk), fun k hk => .inl (h.inS.2.2.1 k hk), fun k hk => .inl (h.inS.2.2.2.1 k hk), fun k hk => .inl (h.inS.2.2.2.2 k hk)⟩, h.lain.grow (Nat.le_of_lt h.hb) hb.size, h.lt⟩

/-- One row of the reader's own has turned, what is new has been laid, and then cells of the reader's block. -/
theorem RdAt.turn (h : RdAt S b base A n c inside p wh vl vi vb vm w) {w2 w' : World} {row : Option Nat} {vl' vi' vb' vm' : Value} {inside' : List (List UInt8)} {p' : PF} {wh' : Txt}
    (hg : w.grownBy w2 row) (hrow : ∀ k, row = some k → S k ∧ k ≠ b)
    (hl : w2.ownsRow base 9 1 vl' inside'.length (strs inside')) (hi : w2.ownsRow base 67 2 vi' p'.ign.length (rowsE rulV p'.ign))
    (hk : w2.ownsRow base 67 2 vb' p'.bak.length (rowsE rulV p'.bak)) (hm : w2.ownsRow base 54 2 vm' p'.mrg.length (rowsE pgmV p'.mrg)) (ap : Apart vi' vb')
    (ll : ∀ k, vl'.ownBlock = some k → S k ∨ w.heap.size ≤ k) (li : ∀ k, vi'.ownBlock = some k → S k ∨ w.heap.size ≤ k) (lb : ∀ k, vb'.ownBlock = some k → S k ∨ w.heap.size ≤ k) (lm : ∀ k, vm'.ownBlock = some k → S k ∨ w.heap.size ≤ k)
    (ho : Only (fun k => k = b) w2 w') (hs : w'.heap.size = w2.heap.size) (hh : w'.heap[b]? = some (.cells (rdC vl' A n c vi' vb' vm' p' wh') 47 (0, 0))) :
    Only S w w' ∧ RdAt (Grow S w w') b base A n c inside' p' wh' vl' vi' vb' vm' w' := by
  have hO : Only S w w' := (Only.of_gb hg (fun k hk => (hrow k hk).1)).trans (ho.mono (fun k hk => hk ▸ h.inS.1))
  have ne : ∀ {v : Value} {e : TypeId} {s m : Nat} {xs : List Value}, w2.ownsRow base e s v m xs → ∀ k, v.ownBlock = some k → ¬ (k = b) := fun hv k hk e => by
    have := (hv.lt k hk).1; have := h.lt; omega
  have gr : ∀ {v : Value} {e : TypeId} {s m : Nat} {xs : List Value}, w2.ownsRow base e s v m xs → (∀ k, v.ownBlock = some k → S k ∨ w.heap.size ≤ k) → ∀ k, v.ownBlock = some k → Grow S w w' k := fun hv hl k hk => by
    rcases hl k hk with h1 | h1
    · exact .inl h1
    · exact .inr ⟨h1, by rw [hs]; exact (hv.lt k hk).2⟩
  exact ⟨hO, hh, own_only hl ho (ne hl), own_only hi ho (ne hi), own_only hk ho (ne hk), own_only hm ho (ne hm), ap, ⟨.inl h.inS.1, gr hl ll, gr hi li, gr hk lb, gr hm lm⟩, h.lain.grow (Nat.le_of_lt h.hb) hO.size, h.lt⟩

theorem RdAt.head2 (h : RdAt S b base A n c inside p wh vl vi vb vm w) {w2 : World} {v : Value} {e : TypeId} {s m : Nat} {xs : List Value} (hv : w.ownsRow base e s v m xs) (hg : w.grownBy w2 v.ownBlock) : w2.heap[b]? = w.heap[b]? :=
  hg.block b h.hb (fun e => by have := (hv.lt b e.symm).1; have := h.lt; omega)
theorem RdAt.free (h : RdAt S b base A n c inside p wh vl vi vb vm w) {w2 : World} {v : Value} {e : TypeId} {s m : Nat} {xs : List Value} (hv : w.ownsRow base e s v m xs) (hg : w.grownBy w2 v.ownBlock) (i : Nat) : w2.frozen? ⟨b, i, none⟩ = false :=
  frozen_of_row w2 b i _ _ ((h.head2 hv hg).trans h.head)
theorem RdAt.still (h : RdAt S b base A n c inside p wh vl vi vb vm w) {w2 : World} {v : Value} {e : TypeId} {s m : Nat} {xs : List Value} (hv : w.ownsRow base e s v m xs) (hg : w.grownBy w2 v.ownBlock) (i : Nat) : w2.cell? ⟨b, i, none⟩ = w.cell? ⟨b, i, none⟩ := by
  unfold World.cell?; rw [h.head2 hv hg]
theorem RdAt.soft (h : RdAt S b base A n c inside p wh vl vi vb vm w) (i : Nat) : w.frozen? ⟨b, i, none⟩ = false := frozen_of_row w b i _ _ h.head
theorem ne_of_own {base b : Nat} {v : Value} {e : TypeId} {s m : Nat} {xs : List Value} {w : World} (hv : w.ownsRow base e s v m xs) (h : b < base) : ∀ k, v.ownBlock = some k → k ≠ b := fun k hk e => by
  have := (hv.lt k hk).1; omega

/-- another place -/
theorem RdAt.place (h : RdAt S b base A n c inside p wh vl vi vb vm w) (wh' : Txt) (w' : World) (hw : w' = (w.setCell ⟨b, 9, none⟩ (.string ⟨wh'.name.toArray⟩)).setCell ⟨b, 10, none⟩ (.string ⟨wh'.text.toArray⟩)) :
    Only S w w' ∧ RdAt (Grow S w w') b base A n c inside p wh' vl vi vb vm w' := by
  have ho : Only (fun k => k = b) w w' := by rw [hw]; exact (only_cell w b 9 _).trans (only_cell _ b 10 _)
  refine h.turn (gb_refl w none) (fun k hk => by cases hk) h.list h.ign h.bak h.mrg h.apart (fun k hk => .inl (h.inS.2.1 k hk)) (fun k hk => .inl (h.inS.2.2.1 k hk)) (fun k hk => .inl (h.inS.2.2.2.1 k hk)) (fun k hk => .inl (h.inS.2.2.2.2 k hk)) ho (by rw [hw]; simp [World.setCell]) ?_
  rw [hw, heap_set (heap_set h.head _ _)]; rfl
theorem RdAt.num (h : RdAt S b base A n c inside p wh vl vi vb vm w) {p' : PF} {i : Nat} {u : Value} (he : p'.ign = p.ign ∧ p'.bak = p.bak ∧ p'.mrg = p.mrg) (w' : World) (hw : w' = w.setCell ⟨b, i, none⟩ u)
    (hc : (rdC vl A n c vi vb vm p wh).setIfInBounds i u = rdC vl A n c vi vb vm p' wh) : Only S w w' ∧ RdAt (Grow S w w') b base A n c inside p' wh vl vi vb vm w' := by
  have ho : Only (fun k => k = b) w w' := by rw [hw]; exact only_cell _ b _ _
  refine h.turn (gb_refl w none) (fun k hk => by cases hk) h.list (by rw [he.1]; exact h.ign) (by rw [he.2.1]; exact h.bak) (by rw [he.2.2]; exact h.mrg) h.apart (fun k hk => .inl (h.inS.2.1 k hk)) (fun k hk => .inl (h.inS.2.2.1 k hk)) (fun k hk => .inl (h.inS.2.2.2.1 k hk)) (fun k hk => .inl (h.inS.2.2.2.2 k hk)) ho (by rw [hw]; simp [World.setCell]) ?_
  rw [hw, heap_set h.head, hc]
/-- a rule more -/
theorem RdAt.addIgn (h : RdAt S b base A n c inside p wh vl vi vb vm w) {w2 w' : World} {v' : Value} (r : Rule) (hv : w2.ownsRow base 67 2 v' (p.ign.length + 1) (rowsE rulV p.ign ++ rulV r)) (hg : w.grownBy w2 vi.ownBlock) (hl : Lies w vi v') (hw : w' = w2.setCell ⟨b, 2, none⟩ v') :
    Only S w w' ∧ RdAt (Grow S w w') b base A n c inside { p with ign := p.ign ++ [r] } wh vl v' vb vm w' := by
  have ho : Only (fun k => k = b) w2 w' := by rw [hw]; exact only_cell _ b _ _
  refine h.turn hg (fun k hk => ⟨h.inS.2.2.1 k hk, ne_of_own h.ign h.lt k hk⟩) (own_unlikeT h.list h.ign (by decide) hg) (by rw [List.length_append, rowsE_append, rowsE_one]; exact hv) (h.apart.kept h.bak hg) (own_unlikeT h.mrg h.ign (by decide) hg)
    (h.apart.lies hl h.bak) (fun k hk => .inl (h.inS.2.1 k hk)) (fun k hk => (hl k hk).imp (fun e => h.inS.2.2.1 k e) id) (fun k hk => .inl (h.inS.2.2.2.1 k hk)) (fun k hk => .inl (h.inS.2.2.2.2 k hk)) ho (by rw [hw]; simp [World.setCell]) ?_
  rw [hw, heap_set ((h.head2 h.ign hg).trans h.head)]; rfl
theorem RdAt.addBak (h : RdAt S b base A n c inside p wh vl vi vb vm w) {w2 w' : World} {v' : Value} (r : Rule) (hv : w2.ownsRow base 67 2 v' (p.bak.length + 1) (rowsE rulV p.bak ++ rulV r)) (hg : w.grownBy w2 vb.ownBlock) (hl : Lies w vb v') (hw : w' = w2.setCell ⟨b, 3, none⟩ v') :
    Only S w w' ∧ RdAt (Grow S w w') b base A n c inside { p with bak := p.bak ++ [r] } wh vl vi v' vm w' := by
  have ho : Only (fun k => k = b) w2 w' := by rw [hw]; exact only_cell _ b _ _
  refine h.turn hg (fun k hk => ⟨h.inS.2.2.2.1 k hk, ne_of_own h.bak h.lt k hk⟩) (own_unlikeT h.list h.bak (by decide) hg) (h.apart.symm.kept h.ign hg) (by rw [List.length_append, rowsE_append, rowsE_one]; exact hv) (own_unlikeT h.mrg h.bak (by decide) hg)
    (h.apart.symm.lies hl h.ign).symm (fun k hk => .inl (h.inS.2.1 k hk)) (fun k hk => .inl (h.inS.2.2.1 k hk)) (fun k hk => (hl k hk).imp (fun e => h.inS.2.2.2.1 k e) id) (fun k hk => .inl (h.inS.2.2.2.2 k hk)) ho (by rw [hw]; simp [World.setCell]) ?_
  rw [hw, heap_set ((h.head2 h.bak hg).trans h.head)]; rfl
theorem RdAt.addMrg (h : RdAt S b base A n c inside p wh vl vi vb vm w) {w2 w' : World} {v' : Value} (r : Prg) (hv : w2.ownsRow base 54 2 v' (p.mrg.length + 1) (rowsE pgmV p.mrg ++ pgmV r)) (hg : w.grownBy w2 vm.ownBlock) (hl : Lies w vm v') (hw : w' = w2.setCell ⟨b, 4, none⟩ v') :
    Only S w w' ∧ RdAt (Grow S w w') b base A n c inside { p with mrg := p.mrg ++ [r] } wh vl vi vb v' w' := by
  have ho : Only (fun k => k = b) w2 w' := by rw [hw]; exact only_cell _ b _ _
  refine h.turn hg (fun k hk => ⟨h.inS.2.2.2.2 k hk, ne_of_own h.mrg h.lt k hk⟩) (own_unlikeT h.list h.mrg (by decide) hg) (own_unlikeT h.ign h.mrg (by decide) hg) (own_unlikeT h.bak h.mrg (by decide) hg) (by rw [List.length_append, rowsE_append, rowsE_one]; exact hv)
    h.apart (fun k hk => .inl (h.inS.2.1 k hk)) (fun k hk => .inl (h.inS.2.2.1 k hk)) (fun k hk => .inl (h.inS.2.2.2.1 k hk)) (fun k hk => (hl k hk).imp (fun e => h.inS.2.2.2.2 k e) id) ho (by rw [hw]; simp [World.setCell]) ?_
  rw [hw, heap_set ((h.head2 h.mrg hg).trans h.head)]; rfl
/-- a text more that is being read -/
theorem RdAt.addList (h : RdAt S b base A n c inside p wh vl vi vb vm w) {w2 w' : World} {v' : Value} (r : List UInt8) (hv : w2.ownsRow base 9 1 v' (inside.length + 1) (strs inside ++ [.string ⟨r.toArray⟩])) (hg : w.grownBy w2 vl.ownBlock) (hl : Lies w vl v') (hw : w' = w2.setCell ⟨b, 0, none⟩ v') :
    Only S w w' ∧ RdAt (Grow S w w') b base A n c (inside ++ [r]) p wh v' vi vb vm w' := by
  have ho : Only (fun k => k = b) w2 w' := by rw [hw]; exact only_cell _ b _ _
  refine h.turn hg (fun k hk => ⟨h.inS.2.1 k hk, ne_of_own h.list h.lt k hk⟩) (by rw [List.length_append, strs_append]; exact hv) (own_unlikeT h.ign h.list (by decide) hg) (own_unlikeT h.bak h.list (by decide) hg) (own_unlikeT h.mrg h.list (by decide) hg)
    h.apart (fun k hk => (hl k hk).imp (fun e => h.inS.2.1 k e) id) (fun k hk => .inl (h.inS.2.2.1 k hk)) (fun k hk => .inl (h.inS.2.2.2.1 k hk)) (fun k hk => .inl (h.inS.2.2.2.2 k hk)) ho (by rw [hw]; simp [World.setCell]) ?_
  rw [hw, heap_set ((h.head2 h.list hg).trans h.head)]; rfl
/-- a text less -/
theorem RdAt.cutList {r : List UInt8} (h : RdAt S b base A n c (inside ++ [r]) p wh vl vi vb vm w) {B : Option Addr} {m d : Nat} (hvl : vl = .slice B m d) {w' : World} (hw : w' = w.setCell ⟨b, 0, none⟩ (.slice B inside.length d)) :
    Only S w w' ∧ RdAt (Grow S w w') b base A n c inside p wh (.slice B inside.length d) vi vb vm w' := by
  have ho : Only (fun k => k = b) w w' := by rw [hw]; exact only_cell _ b _ _
  subst hvl
  have hl := h.list
  have hm : m = (inside ++ [r]).length := by
    rcases hl.2 with ⟨hv, h0⟩ | ⟨g, cap, cur, hv, _⟩
    · simp at h0
    · injection hv
  subst hm
  have hB : B ≠ none := by
    rcases hl.2 with ⟨hv, h0⟩ | ⟨g, cap, cur, hv, _⟩
    · simp at h0
    · injection hv with h1 _ _; rw [h1]; exact fun e => by cases e
  have hs := own_shorter hl (k := inside.length) (by simp) hB
  rw [Nat.mul_one, strs_take, List.take_left] at hs
  refine h.turn (gb_refl w none) (fun k hk => by cases hk) hs h.ign h.bak h.mrg h.apart (fun k hk => .inl (h.inS.2.1 k (by cases B with | none => cases hk | some a => exact hk))) (fun k hk => .inl (h.inS.2.2.1 k hk)) (fun k hk => .inl (h.inS.2.2.2.1 k hk)) (fun k hk => .inl (h.inS.2.2.2.2 k hk)) ho (by rw [hw]; simp [World.setCell]) ?_
  rw [hw, heap_set h.head]; rfl

/-- The reader since the world a: only S, and what is new, has turned. -/
structure Rd (S : Nat → Prop) (a : World) (b base : Nat) (A : Option Addr) (n c : Nat) (inside : List (List UInt8)) (p : PF) (wh : Txt) (vl vi vb vm : Value) (w : World) : Prop where
  only : Only S a w
  at_ : RdAt (Grow S a w) b base A n c inside p wh vl vi vb vm w
  lain : Lain b S a
  hb : b ≤ a.heap.size
variable {a w' : World}
theorem RdAt.start (h : RdAt S b base A n c inside p wh vl vi vb vm w) : Rd S w b base A n c inside p wh vl vi vb vm w :=
  ⟨Only.refl _ _, h.more (Below.refl _ _), h.lain, Nat.le_of_lt h.hb⟩
theorem RdAt.into {T : Nat → Prop} (h : RdAt S b base A n c inside p wh vl vi vb vm w) (hs : ∀ k, S k → T k) (hl : Lain b T w) : RdAt T b base A n c inside p wh vl vi vb vm w :=
  ⟨h.head, h.list, h.ign, h.bak, h.mrg, h.apart, ⟨hs _ h.inS.1, fun k hk => hs k (h.inS.2.1 k hk), fun k hk => hs k (h.inS.2.2.1 k hk), fun k hk => hs k (h.inS.2.2.2.1 k hk), fun k hk => hs k (h.inS.2.2.2.2 k hk)⟩, hl, h.lt⟩
theorem grow_grow (h1 : a.heap.size ≤ w.heap.size) (h2 : w.heap.size ≤ w'.heap.size) : ∀ k, Grow (Grow S a w) w w' k → Grow S a w' k := by
  rintro k ((hk | hk) | hk)
  · exact .inl hk
  · exact .inr ⟨hk.1, by omega⟩
  · exact .inr ⟨by omega, hk.2⟩
section
variable {inside' : List (List UInt8)} {p' : PF} {wh' : Txt} {vl' vi' vb' vm' : Value}
theorem Rd.step (h : Rd S a b base A n c inside p wh vl vi vb vm w) (h2 : Only (Grow S a w) w w' ∧ RdAt (Grow (Grow S a w) w w') b base A n c inside' p' wh' vl' vi' vb' vm' w') : Rd S a b base A n c inside' p' wh' vl' vi' vb' vm' w' :=
  ⟨h.only.more h2.1, h2.2.into (grow_grow h.only.size h2.1.size) (h.lain.grow h.hb (Nat.le_trans h.only.size h2.1.size)), h.lain, h.hb⟩
theorem Rd.trans (h : Rd S a b base A n c inside p wh vl vi vb vm w) (h2 : Rd (Grow S a w) w b base A n c inside' p' wh' vl' vi' vb' vm' w') : Rd S a b base A n c inside' p' wh' vl' vi' vb' vm' w' := h.step ⟨h2.only, h2.at_⟩
theorem Rd.below (h : Rd S a b base A n c inside p wh vl vi vb vm w) (hb : Below w.heap.size w w') : Rd S a b base A n c inside p wh vl vi vb vm w' := h.step ⟨Only.of_below hb, h.at_.more hb⟩
/-- a row has been laid meanwhile, that is none of the reader's own -/
theorem Rd.span {w3 w4 : World} (h : Rd S a b base A n c inside p wh vl vi vb vm w3) (hb : Below w3.heap.size w3 w4) (h2 : Rd (Grow S a w3) w4 b base A n c inside' p' wh' vl' vi' vb' vm' w') : Rd S a b base A n c inside' p' wh' vl' vi' vb' vm' w' := by
  have ho : Only (Grow S a w3) w3 w' := (Only.of_below hb).trans h2.only
  refine ⟨h.only.more ho, h2.at_.into ?_ (h.lain.grow h.hb (Nat.le_trans h.only.size ho.size)), h.lain, h.hb⟩
  have s1 := h.only.size
  have s2 := hb.size
  have s3 := h2.only.size
  rintro k ((hk | hk) | hk)
  · exact .inl hk
  · exact .inr ⟨hk.1, by omega⟩
  · exact .inr ⟨by omega, hk.2⟩
/-- what was below the reader's block is as it was -/
theorem Rd.kept (h : Rd S a b base A n c inside p wh vl vi vb vm w) : Below b a w := h.only.below h.hb (fun k hk => (h.lain k hk).1)
end
end
end Go.Proofs.YtoifnnhbejofjaaDoor
end

/- Loads of a struct, and of a cell, in a region that draws its order. -/
section
namespace Go.Proofs.YtoifnnhbejofjaaDoor
open Go.RowKit

/-- A load of a whole struct, and of one cell, in a region that draws its order, whose calls keep old memory. -/
theorem quiet_load_row {P : Program} {w : World} {o : Oper} {a : Act} {K : Act → Prop} (ty : TypeId) (x : Operand) (ho : o.op = .load ty x)
    (g : Nat) (hx : a.eval x = .pointer (some ⟨g, 0, none⟩)) (t : TypeId) (cs : Array Value) (fr : Nat × Nat) (d : TypeDesc) (hg : w.heap[g]? = some (.cells cs t fr))
    (hu : P.underlying ty = some d) (hd : (match d with | .struct _ | .array _ _ => true | _ => false) = true) (hi : (P.info? ty).map (·.size) = some cs.size)
    (h : K (a.put o.dst (.agg cs))) : o.quiet P a (fun W => Below w.heap.size w W) K := by
  refine ⟨.agg cs, fun W hW => ?_, h⟩
  have hgW : W.heap[g]? = some (.cells cs t fr) := by rw [hW.block g (Array.getElem?_eq_some_iff.1 hg).1]; exact hg
  unfold Oper.quietAt execOp
  simp only [ho, hx, Instr.loadAt, Instr.sureAddr, Sem.run_bind, Sem.run_pure, Result.andThen_ok, run_loadVar_row W g t ty cs fr d hgW hu hd hi]
  exact ⟨rfl, rfl⟩
theorem quiet_load_cell {P : Program} {w : World} {o : Oper} {a : Act} {K : Act → Prop} (ty : TypeId) (x : Operand) (ho : o.op = .load ty x)
    (p : Addr) (hx : a.eval x = .pointer (some p)) (v : Value) (d : TypeDesc) (hc : w.cell? p = some v)
    (hu : P.underlying ty = some d) (hd : (match d with | .struct _ | .array _ _ => true | _ => false) = false)
    (h : K (a.put o.dst v)) : o.quiet P a (fun W => Below w.heap.size w W) K := by
  refine ⟨v, fun W hW => ?_, h⟩
  have hcW : W.cell? p = some v := by rw [hW.cell (World.block_lt_of_cell? _ _ hc)]; exact hc
  have hagg : (isAgg ty).run P W = .ok false W := by
    unfold isAgg
    rw [Sem.run_bind, run_underlying hu W]
    cases d <;> simp_all
  unfold Oper.quietAt execOp
  simp only [ho, hx, Instr.loadAt, Instr.sureAddr, Sem.run_bind, Sem.run_pure, Result.andThen_ok, loadVar, hagg]
  simp [go_sem, hcW, Oper.quietUpon]
/-- A load of a part of a row. -/
theorem quiet_load_mid {P : Program} {w : World} {o : Oper} {a : Act} {K : Act → Prop} (ty : TypeId) (x : Operand) (ho : o.op = .load ty x)
    (b f : Nat) (hx : a.eval x = .pointer (some ⟨b, f, none⟩)) (cs : List Value) (d : TypeDesc) (hc : w.rangeAt b f cs) (hb : b < w.heap.size)
    (hu : P.underlying ty = some d) (hd : d.isRow = true) (hi : (P.info? ty).map (·.size) = some cs.length)
    (h : K (a.put o.dst (.agg cs.toArray))) : o.quiet P a (fun W => Below w.heap.size w W) K := by
  refine ⟨.agg cs.toArray, fun W hW => ?_, h⟩
  have hcW : W.rangeAt b f cs := fun j v hv => by rw [hW.cell hb]; exact hc j v hv
  unfold Oper.quietAt execOp
  simp only [ho, hx, Instr.loadAt, Instr.sureAddr, Sem.run_bind, Sem.run_pure, Result.andThen_ok, run_loadVar_mid W b f ty cs d hcW hu hd hi]
  exact ⟨rfl, rfl⟩
end Go.Proofs.YtoifnnhbejofjaaDoor
end

/- prof: cut, word, side; the first text of a name; is a name among those that are being read? -/
section
set_option linter.unusedVariables false
namespace Go.Proofs.YtoifnnhbejofjaaDoor
open Go.RowKit Plain

namespace Plain
theorem dropWhile_nil {p : UInt8 → Bool} : ∀ l : List UInt8, l.dropWhile p = [] ↔ l.all p = true
  | [] => by simp
  | x :: l => by
    rw [List.dropWhile_cons]
    cases h : p x with
    | true => rw [if_pos rfl, List.all_cons, h, Bool.true_and]; exact dropWhile_nil l
    | false => simp [h]
theorem takeWhile_dropWhile_all {p : UInt8 → Bool} (l : List UInt8) (h : (l.dropWhile p).all p = true) : l.all p = true := by
  have h1 := List.takeWhile_append_dropWhile (p := p) (l := l)
  rw [← h1, List.all_append, h, Bool.and_true]
  rw [List.all_eq_true]
  intro x hx
  exact List.all_eq_true.1 (List.all_takeWhile (p := p) (l := l)) x hx
theorem trim_nil (l cs : List UInt8) : Lib.trimS l cs = [] ↔ l.all (fun c => cs.contains c) = true := by
  unfold Lib.trimS Lib.trimLeftS Lib.trimRightS
  rw [dropWhile_nil, List.all_reverse]
  constructor
  · intro h
    have := takeWhile_dropWhile_all _ h
    rwa [List.all_reverse] at this
  · intro h
    have : l.reverse.dropWhile (fun c => cs.contains c) = [] := by rw [dropWhile_nil, List.all_reverse]; exact h
    rw [this]; rfl
theorem trim_le (s : List UInt8) : (trimP s).length ≤ s.length := by
  rw [trimS_alt]
  have h1 := List.Sublist.length_le (List.dropWhile_sublist (p := blk) (l := (s.reverse.dropWhile blk).reverse))
  have h2 := List.Sublist.length_le (List.dropWhile_sublist (p := blk) (l := s.reverse))
  simp only [List.length_reverse] at h1 h2
  omega
theorem cut_le (s : List UInt8) : (cutP s).1.length ≤ s.length ∧ (cutP s).2.length ≤ s.length := by
  unfold cutP
  have h1 := trim_le s
  have h2 := wordOf_le (trimP s)
  have h3 := trim_le ((trimP s).drop (wordOf (trimP s)).length)
  rw [List.length_drop] at h3
  simp only
  omega
/-- where the first blank stands -/
theorem indexAny_word : ∀ t : List UInt8, Lib.indexAny t blanks = if (wordOf t).length < t.length then ((wordOf t).length : Int) else -1
  | [] => rfl
  | x :: t => by
    have ih := indexAny_word t
    have hu : Lib.indexAny (x :: t) blanks = if blanks.contains x then 0 else if Lib.indexAny t blanks == -1 then -1 else Lib.indexAny t blanks + 1 := rfl
    have hw : wordOf (x :: t) = if blk x then [] else x :: wordOf t := by
      unfold wordOf
      rw [List.takeWhile_cons]
      cases blk x <;> rfl
    rw [hu, hw, blanks_has, ih]
    cases blk x with
    | true => simp
    | false =>
      simp only [Bool.false_eq_true, if_false, List.length_cons]
      by_cases h : (wordOf t).length < t.length
      · rw [if_pos h, if_neg (by simp only [beq_iff_eq]; omega), if_pos (by omega)]; omega
      · rw [if_neg h, if_pos (by decide), if_neg (by omega)]
theorem wordOf_all {t : List UInt8} (h : ¬ (wordOf t).length < t.length) : wordOf t = t := by
  have h1 := wordOf_take t
  rw [List.take_of_length_le (by omega)] at h1
  exact h1.symm
def azs : List UInt8 := [97, 98, 99, 100, 101, 102, 103, 104, 105, 106, 107, 108, 109, 110, 111, 112, 113, 114, 115, 116, 117, 118, 119, 120, 121, 122]
theorem azs_has (c : UInt8) : azs.contains c = (decide (97 ≤ c.toNat) && decide (c.toNat ≤ 122)) := by
  have : ∀ i : Fin 256, azs.contains (UInt8.ofNat i.val) = (decide (97 ≤ i.val) && decide (i.val ≤ 122)) := by decide +kernel
  have h := this ⟨c.toNat, c.toNat_lt⟩
  simp only [UInt8.ofNat_toNat] at h
  exact h
theorem word_trim (s : List UInt8) : wordP s = ((!s.isEmpty && decide (s.length ≤ 16)) && (Lib.trimS s azs).isEmpty) := by
  have e : (Lib.trimS s azs).isEmpty = s.all (fun c => decide (97 ≤ c.toNat) && decide (c.toNat ≤ 122)) := by
    rw [Bool.eq_iff_iff, List.isEmpty_iff, trim_nil]
    rw [show (fun c => azs.contains c) = (fun c : UInt8 => decide (97 ≤ c.toNat) && decide (c.toNat ≤ 122)) from funext azs_has]
  rw [e]
  unfold wordP
  cases s with
  | nil => rfl
  | cons x r => simp
end Plain

theorem Trim_any (s cs : List UInt8) (w : World) (hs : s.length ≤ 9223372036854775807) (hc : cs.length < 4294967281) (ha : cs.all (fun b => decide (b.toNat < 128)) = true) :
    Calls Tryd.prog 43 #[.string ⟨s.toArray⟩, .string ⟨cs.toArray⟩] w (Ret w (.string ⟨(Lib.trimS s cs).toArray⟩)) :=
  Any.strings_Trim_laid Tryd.lays160 (by kernel_rfl) ⟨s.toArray⟩ ⟨cs.toArray⟩ w (by simpa [ByteArray.size] using hs) (by simpa [ByteArray.size] using hc) (ascii_of_all ha)
theorem TrimP_any (s : List UInt8) (w : World) (hs : s.length ≤ 4294967280) :
    Calls Tryd.prog 43 #[.string ⟨s.toArray⟩, .string ⟨#[32, 9, 13]⟩] w (Ret w (.string ⟨(trimP s).toArray⟩)) := Trim_any s blanks w (by omega) (by decide) (by decide)

set_option maxHeartbeats 1000000 in
set_option maxRecDepth 100000 in
theorem cut_any (s : List UInt8) (w : World) (hs : s.length ≤ 4294967280) :
    Calls Tryd.prog 31 #[.string ⟨s.toArray⟩] w (Ret w (.tuple #[.string ⟨(cutP s).1.toArray⟩, .string ⟨(cutP s).2.toArray⟩])) := by
  have HT := Lib.hid (fun W => TrimP_any s W hs)
  have htl := trim_le s
  unfold cutP
  simp only
  generalize trimP s = t at *
  have HI := Lib.hid (fun W => Blank.IndexAny_any t W (by omega))
  rw [show Blank.bl3 = blanks from rfl, indexAny_word] at HI
  have HT2 := Lib.hid (fun W => TrimP_any (t.drop (wordOf t).length) W (by rw [List.length_drop]; omega))
  have hwl := wordOf_le t
  by_cases h : (wordOf t).length < t.length
  · rw [if_pos h] at HI
    have HTK := Lib.hid (wordOf_take t)
    have HD := Lib.hid (show (t.drop (wordOf t).length).take (t.length - (wordOf t).length) = t.drop (wordOf t).length from List.take_of_length_le (by rw [List.length_drop]; omega))
    generalize wordOf t = u at *
    have g1 : (0 : Int) ≤ (u.length : Int) := by omega
    have g2 : (u.length : Int) ≤ (t.length : Int) := by omega
    go_enter Tryd.func31, Tryd.ntmps31
    go_wp2_with (fail)
    refine (HT.out _).mono ?_
    rintro e w1 ⟨rfl, hw1⟩
    have HB1 := Lib.hid hw1
    clear hw1
    go_wp2_with (fail)
    refine (HI.out _).mono ?_
    rintro e w2 ⟨rfl, hw2⟩
    have HB2 := Lib.hid (HB1.out.trans (hw2.mono HB1.out.size))
    clear hw2
    go_wp2_with (fail)
    refine wp_region_below (by kernel_rfl) (by kernel_rfl) ?_
    repeat (go_big_quiet_step ((intro hW; go_at_call 43; exact Ret.quiet hW (HT2.out _))))
    refine wpQuiet_nil ?_
    intro W3 hW3
    go_wp2_with (fail)
    go_ret2
    exact ⟨by rw [HTK.out]; rfl, HB2.out.trans (hW3.mono HB2.out.size)⟩
  · rw [if_neg h] at HI
    have HA := Lib.hid (wordOf_all h)
    rw [HA.out] at *
    have HN : Hid (trimP (t.drop t.length) = []) := Lib.hid (by rw [List.drop_length]; rfl)
    clear h hwl HT2
    go_enter Tryd.func31, Tryd.ntmps31
    go_wp2_with (fail)
    refine (HT.out _).mono ?_
    rintro e w1 ⟨rfl, hw1⟩
    have HB1 := Lib.hid hw1
    clear hw1
    go_wp2_with (fail)
    refine (HI.out _).mono ?_
    rintro e w2 ⟨rfl, hw2⟩
    have HB2 := Lib.hid (HB1.out.trans (hw2.mono HB1.out.size))
    clear hw2
    go_wp2_with (fail)
    go_ret2
    exact ⟨by rw [HN.out]; rfl, HB2.out⟩

set_option maxHeartbeats 1000000 in
set_option maxRecDepth 100000 in
theorem word_any (s : List UInt8) (w : World) (hs : s.length ≤ 9223372036854775807) : Calls Tryd.prog 22 #[.string ⟨s.toArray⟩] w (Ret w (.bool (wordP s))) := by
  have HT := Lib.hid (fun W => Trim_any s azs W hs (by decide) (by decide))
  rw [word_trim]
  generalize Lib.trimS s azs = t at *
  unfold azs at HT
  cases s with
  | nil =>
    go_enter Tryd.func22, Tryd.ntmps22
    go_wp2_with (fail)
    go_ret
    exact ⟨rfl, Below.refl _ _⟩
  | cons x r =>
    have hl : (x :: r).isEmpty = false := rfl
    rw [hl]
    generalize x :: r = s at *
    by_cases h : s.length ≤ 16
    · have h1 : decide ((s.length : Int) ≤ 16) = true := by rw [decide_eq_true_eq]; omega
      have h2 : decide (s.length ≤ 16) = true := by rw [decide_eq_true_eq]; exact h
      rw [h2]
      clear h h2
      go_enter Tryd.func22, Tryd.ntmps22
      go_wp2_with (go_at_call 43; refine (HT.out _).mono ?_; rintro e w1 ⟨rfl, hw1⟩)
      go_ret
      exact ⟨by simp, hw1⟩
    · have h1 : decide ((s.length : Int) ≤ 16) = false := by rw [decide_eq_false_iff_not]; omega
      have h2 : decide (s.length ≤ 16) = false := by rw [decide_eq_false_iff_not]; exact h
      rw [h2]
      clear h h2
      go_enter Tryd.func22, Tryd.ntmps22
      go_wp2_with (fail)
      go_ret
      exact ⟨rfl, Below.refl _ _⟩

theorem side_any (s : List UInt8) (w : World) : Calls Tryd.prog 50 #[.string ⟨s.toArray⟩] w (Ret w (.int .i64 (sideP s))) := by
  unfold sideP
  by_cases h1 : s = [97]
  · subst h1
    go_enter Tryd.func50, Tryd.ntmps50
    go_wp2_with (fail)
    go_ret
    exact ⟨rfl, Below.refl _ _⟩
  · have g1 : (s == [97]) = false := by simpa using h1
    rw [if_neg h1]
    by_cases h2 : s = [98]
    · subst h2
      go_enter Tryd.func50, Tryd.ntmps50
      go_wp2_with (fail)
      go_ret
      exact ⟨rfl, Below.refl _ _⟩
    · have g2 : (s == [98]) = false := by simpa using h2
      rw [if_neg h2]
      clear h1 h2
      go_enter Tryd.func50, Tryd.ntmps50
      go_wp2_with (fail)
      go_ret
      exact ⟨rfl, Below.refl _ _⟩
end Go.Proofs.YtoifnnhbejofjaaDoor
end
