/- Texts joined: RowsE, HashCrcRef, Rec3, HeldLast. -/
import Derived.Test.YtjajoiahgfafgaaDoorBArchTurned7
import Derived.Test.YtjajoiahgfafgaaDoorBCodeBase1
import Derived.Deep.MidRow
import Derived.Test.YtjajoiahgfafgaaDoorBArchTurned5
import Derived.Deep.RegionHeld
import Derived.StillTail
set_option linter.unusedSimpArgs false
set_option linter.unusedVariables false

/- Rows of structs: a list of values, each of so many cells, in a row of the call's own. -/
section
namespace Go.Proofs.YtjajoiahgfafgaaDoor
open Go.RowKit

section
variable {α : Type}
def rowsE (enc : α → List Value) (l : List α) : List Value := l.flatMap enc
variable {enc : α → List Value} {m : Nat}
theorem rowsE_cons (x : α) (l : List α) : rowsE enc (x :: l) = enc x ++ rowsE enc l := by simp [rowsE]
theorem rowsE_append (l k : List α) : rowsE enc (l ++ k) = rowsE enc l ++ rowsE enc k := by simp [rowsE]
theorem rowsE_one (x : α) : rowsE enc [x] = enc x := by simp [rowsE]
theorem rowsE_nil : rowsE enc [] = [] := rfl
theorem rowsE_length (hm : ∀ x, (enc x).length = m) (l : List α) : (rowsE enc l).length = l.length * m := by
  induction l with
  | nil => simp [rowsE]
  | cons x l ih => rw [rowsE_cons, List.length_append, hm, ih, List.length_cons, Nat.add_mul]; omega
theorem rowsE_oneCell (h1 : ∀ x, ∀ u ∈ enc x, u.oneCell' = true) (l : List α) : ∀ u ∈ rowsE enc l, u.oneCell' = true := by
  intro u hu
  obtain ⟨x, -, hx⟩ := List.mem_flatMap.1 hu
  exact h1 x u hx
theorem rowsE_get (hm : ∀ x, (enc x).length = m) (l : List α) : ∀ (j : Nat) (h : j < l.length) (i : Nat), i < m → (rowsE enc l)[j * m + i]? = (enc l[j])[i]? := by
  induction l with
  | nil => intro j h; simp at h
  | cons x l ih =>
    intro j h i hi
    rw [rowsE_cons]
    cases j with
    | zero => rw [List.getElem?_append_left (by rw [hm]; omega)]; simp
    | succ j =>
      rw [List.getElem?_append_right (by rw [hm, Nat.add_mul]; omega), hm, List.getElem_cons_succ, ← ih j (by simpa using h) i hi]
      congr 1; rw [Nat.add_mul]; omega
theorem rowsE_set (hm : ∀ x, (enc x).length = m) (l : List α) : ∀ (j : Nat) (_ : j < l.length) (x : α), rowsE enc (l.set j x) = (rowsE enc l).take (j * m) ++ enc x ++ (rowsE enc l).drop (j * m + m) := by
  induction l with
  | nil => intro j h; simp at h
  | cons y l ih =>
    intro j h x
    cases j with
    | zero =>
      rw [List.set_cons_zero, rowsE_cons, rowsE_cons]
      simp [hm]
    | succ j =>
      rw [List.set_cons_succ, rowsE_cons, rowsE_cons, ih j (by simpa using h) x]
      have h1 : (enc y).take ((j + 1) * m) = enc y := List.take_of_length_le (by rw [hm, Nat.add_mul]; omega)
      have h2 : (enc y).drop ((j + 1) * m + m) = [] := List.drop_eq_nil_of_le (by rw [hm, Nat.add_mul]; omega)
      rw [List.take_append, List.drop_append, hm, h1, h2]
      rw [show (j + 1) * m - m = j * m by rw [Nat.add_mul]; omega, show (j + 1) * m + m - m = j * m + m by rw [Nat.add_mul]; omega]
      simp
theorem rows_mid {A vs : List Value} {o k : Nat} (hv : vs.length = m) (h1 : o + m ≤ k) (h2 : k ≤ A.length) : (A.take o ++ vs ++ A.drop (o + m)).take k = (A.take k).take o ++ vs ++ (A.take k).drop (o + m) := by
  have hl : (A.take o ++ vs).length = o + m := by simp [hv]; omega
  rw [List.take_append, hl, List.take_of_length_le (by omega), List.take_take, Nat.min_eq_left (by omega), List.drop_take]

variable {w w' : World} {base g c : Nat} {t : TypeId} {l : List α}
theorem rowsE_some {v : Value} (h : w.ownsRow base t m v l.length (rowsE enc l)) (hn : 0 < l.length) : ∃ g c, v = .slice (some ⟨g, 0, none⟩) l.length c ∧ base ≤ g ∧ g < w.heap.size := by
  rcases h.2 with ⟨h1, h2⟩ | ⟨g, cap, cur, h1, h2, h3, -⟩
  · omega
  · exact ⟨g, cap, h1, h2, (Array.getElem?_eq_some_iff.1 h3).1⟩
theorem rowsE_cell (hm : ∀ x, (enc x).length = m) (h : w.ownsRow base t m (.slice (some ⟨g, 0, none⟩) l.length c) l.length (rowsE enc l)) {j : Nat} (hj : j < l.length) {i : Nat} (hi : i < m) : w.cell? ⟨g, j * m + i, none⟩ = (enc l[j])[i]? := by
  have h1 := rowsE_get hm l j hj i hi
  have h2 : i < (enc l[j]).length := by rw [hm]; exact hi
  rw [List.getElem?_eq_getElem h2] at h1 ⊢
  have := h.cells (g := g) rfl (j * m + i) _ h1
  simpa [Addr.add_mid] using this
theorem rowsE_frozen (h : w.ownsRow base t m (.slice (some ⟨g, 0, none⟩) l.length c) l.length (rowsE enc l)) (i : Nat) : w.frozen? ⟨g, i, none⟩ = false := by
  rcases h.2 with ⟨h1, h2⟩ | ⟨g', cap, cur, h1, h2, h3, -⟩
  · cases h1
  · injection h1 with h1 _ _
    injection h1 with h1
    injection h1 with h1 _ _
    subst h1
    exact frozen_of_row w g _ _ _ h3
theorem rowsE_there (hm : ∀ x, (enc x).length = m) (h : w.ownsRow base t m (.slice (some ⟨g, 0, none⟩) l.length c) l.length (rowsE enc l)) {j : Nat} (hj : j < l.length) : w.there g (j * m) m := by
  intro i hi
  refine ⟨?_, rowsE_frozen h _⟩
  rw [rowsE_cell hm h hj hi, List.getElem?_eq_getElem (by rw [hm]; exact hi)]; rfl
theorem rowsE_range (hm : ∀ x, (enc x).length = m) (h : w.ownsRow base t m (.slice (some ⟨g, 0, none⟩) l.length c) l.length (rowsE enc l)) {j : Nat} (hj : j < l.length) : w.rangeAt g (j * m) (enc l[j]) := by
  intro i v hv
  have hi : i < m := by have := (List.getElem?_eq_some_iff.1 hv).1; rwa [hm] at this
  rw [rowsE_cell hm h hj hi]; exact hv
theorem rowsE_setrow (hm : ∀ x, (enc x).length = m) (h : w.ownsRow base t m (.slice (some ⟨g, 0, none⟩) l.length c) l.length (rowsE enc l)) {j : Nat} (hj : j < l.length) (x : α) :
    (w.setCells g (j * m) (enc x)).ownsRow base t m (.slice (some ⟨g, 0, none⟩) l.length c) l.length (rowsE enc (l.set j x)) ∧ w.grownBy (w.setCells g (j * m) (enc x)) (some g) := by
  rcases h.2 with ⟨h1, h2⟩ | ⟨g', cap, cur, h1, h2, h3, h4, h5, h6, h7⟩
  · cases h1
  · injection h1 with h1 _ h1c
    injection h1 with h1
    injection h1 with h1 _ _
    subst h1 h1c
    have hle : (j + 1) * m ≤ l.length * m := Nat.mul_le_mul_right m hj
    have hle2 : l.length * m ≤ c * m := Nat.mul_le_mul_right m h4
    rw [Nat.add_mul] at hle
    obtain ⟨e1, e2, e3⟩ := heap_setCells (enc x) (j * m) cur w h3 (by rw [hm, h6]; omega)
    rw [hm] at e1
    refine ⟨⟨by rw [rowsE_length hm, List.length_set], .inr ⟨g, c, _, rfl, h2, e1, h4, h5, ?_, ?_⟩⟩, e2⟩
    · simp [hm]; omega
    · show (List.take _ _) = _
      rw [rows_mid (hm x) (by omega) (by simp; omega), h7, rowsE_set hm l j hj x]
/-- one cell of a row is stored -/
theorem rowsE_setcell (hm : ∀ x, (enc x).length = m) (h : w.ownsRow base t m (.slice (some ⟨g, 0, none⟩) l.length c) l.length (rowsE enc l)) {j : Nat} (hj : j < l.length) {i : Nat} (hi : i < m) (u : Value) (x : α) (hx : enc x = (enc l[j]).set i u) :
    (w.setCell ⟨g, j * m + i, none⟩ u).ownsRow base t m (.slice (some ⟨g, 0, none⟩) l.length c) l.length (rowsE enc (l.set j x)) ∧ w.grownBy (w.setCell ⟨g, j * m + i, none⟩ u) (some g) := by
  have hle : (j + 1) * m ≤ l.length * m := Nat.mul_le_mul_right m hj
  rw [Nat.add_mul] at hle
  refine ⟨?_, gb_set (gb_refl w _) (.inl rfl) u⟩
  rcases h.2 with ⟨h1, h2⟩ | ⟨g', cap, cur, h1, h2, h3, h4, h5, h6, h7⟩
  · cases h1
  · injection h1 with h1 _ h1c
    injection h1 with h1
    injection h1 with h1 _ _
    subst h1 h1c
    refine ⟨by rw [rowsE_length hm, List.length_set], .inr ⟨g, c, _, rfl, h2, heap_set h3 _ u, h4, h5, by simpa using h6, ?_⟩⟩
    rw [Array.toList_setIfInBounds, List.take_set, h7, rowsE_set hm l j hj x, hx]
    have hl := rowsE_length hm l
    have hlj := hm l[j]
    have e1 : (rowsE enc l).take (j * m) ++ enc l[j] ++ (rowsE enc l).drop (j * m + m) = rowsE enc l := by
      rw [← rowsE_set hm l j hj l[j]]; simp
    conv => lhs; rw [← e1]
    rw [List.append_assoc, List.append_assoc, List.set_append_right _ _ (by simp; omega), List.length_take, hl, Nat.min_eq_left (by omega), show j * m + i - j * m = i by omega, List.set_append_left _ _ (by omega)]
end
end Go.Proofs.YtjajoiahgfafgaaDoor
end


section
namespace Go.Proofs.YtjajoiahgfafgaaDoor
open Go.RowKit Plain

end Go.Proofs.YtjajoiahgfafgaaDoor
end

/- The document's records: what each function answers. -/
section
namespace Go.Proofs.YtjajoiahgfafgaaDoor
open Go.RowKit Plain




set_option maxHeartbeats 400000 in
theorem One_any (s : List UInt8) (w : World)  (hs : s.length ≤ 9223372036854775807) :
    Calls Tryd.prog 15 #[.string ⟨s.toArray⟩] w (Ret w (.tuple #[.string ⟨(one s).1.toArray⟩, .int .i64 (one s).2])) := by
  go_enter Tryd.func15, Tryd.ntmps15
  go_wp2_with (fail)
  refine (Ret.quiet (Below.refl _ _) (Next_any s _ hs)).mono ?_
  rintro e w1 ⟨rfl, hb1⟩
  go_wp2_with (fail)
  · go_ret2
    refine ⟨?_, hb1⟩
    rw [one_more (by assumption)]
    rfl
  · go_ret2
    refine ⟨?_, hb1⟩
    rw [one_ok (by assumption)]
    rfl
end Go.Proofs.YtjajoiahgfafgaaDoor
end

/- A region that draws its order: a condition on the world that holds behind each operation but the last one, which turns what the condition tells. -/
section
namespace Go.Proofs.YtjajoiahgfafgaaDoor
open Go

section
variable {P : Program} {ops : Array Oper} {Q : Exit → Act → World → Prop} {md : Region.Mode} {S : World → Prop} {n : Nat}

def wpAnyN (P : Program) (md : Region.Mode) (ops : Array Oper) (Q : Exit → Act → World → Prop) (S : World → Prop) (n : Nat) : Nat → Array Bool → Act → World → Prop
  | 0, listed, a, w => Region.ready md ops listed = [] ∧ Q .normal a w
  | fuel + 1, listed, a, w =>
    (Region.ready md ops listed = [] → Q .normal a w) ∧
    ∀ i ∈ Region.ready md ops listed, wpOp P ops Q i (fun a' w' => (i ≠ n → S w') ∧ wpAnyN P md ops Q S n fuel (listed.setIfInBounds i true) a' w') a w

theorem wpAny_of_heldN : ∀ (fuel : Nat) (listed : Array Bool) (a : Act) (w : World), wpAnyN P md ops Q S n fuel listed a w → wpAny P md ops Q fuel listed a w
  | 0, _, _, _, h => h
  | fuel + 1, _, _, _, h => ⟨h.1, fun i hi => wpOp_mono (fun a' w' h' => wpAny_of_heldN fuel _ a' w' h'.2) (h.2 i hi)⟩

theorem wpAnyN_first {i : Nat} {oi : Oper} {v : Value} (hi : ops[i]? = some oi) (hwait : Region.waitsFor md ops n i = true) (hsel : ∀ (j : Nat) (o : Oper) cs b, ops[j]? = some o → o.op ≠ .select cs b)
    (hQ : ∀ c a w, Q (.panic c) (a.put oi.dst v) w → Q (.panic c) a w) :
    ∀ (fuel : Nat) (listed : Array Bool) (a : Act) (w : World),
      (∀ j oj, ops[j]? = some oj → j ≠ i → listed.getD j true = false → (∀ e ∈ oj.after, Region.binds md e = true → e.on ≠ i) → oi.apart ops oj = true) →
      i ∈ Region.ready md ops listed → YieldsIf P ops S oi v a → S w →
      wpAnyN P md ops Q S n fuel (listed.setIfInBounds i true) (a.put oi.dst v) w → wpAnyN P md ops Q S n (fuel + 1) listed a w := by
  intro fuel
  induction fuel with
  | zero =>
    intro listed a w _ hr hy hS H
    refine ⟨fun h => (by rw [h] at hr; cases hr), fun j hj => ?_⟩
    by_cases hji : j = i
    · subst hji; exact hy.wpOp hi hS ⟨fun _ => hS, H⟩
    · have := ready_mono hj hji
      rw [H.1] at this
      cases this
  | succ fuel ih =>
    intro listed a w hfree hr hy hS H
    refine ⟨fun h => (by rw [h] at hr; cases hr), fun j hj => ?_⟩
    by_cases hji : j = i
    · subst hji; exact hy.wpOp hi hS ⟨fun _ => hS, H⟩
    · have h1 := H.2 j (ready_mono hj hji)
      obtain ⟨hjun, oj, hoj, hall⟩ := mem_ready.1 hj
      have hnot : ∀ e ∈ oj.after, Region.binds md e = true → e.on ≠ i := fun e he hb heq => by
        have h1 := hall e he hb
        have h0 := (mem_ready.1 hr).1
        rw [heq] at h1
        rcases Nat.lt_or_ge i listed.size with h' | h'
        · simp [h'] at h0 h1; rw [h0] at h1; cases h1
        · simp [Array.getElem?_eq_none h'] at h1
      have hjn : j ≠ n := by
        rintro rfl
        obtain ⟨o', ho', e, he, hb, hon⟩ := Region.waitsFor_spec hwait
        have : o' = oj := Option.some.inj (ho'.symm.trans hoj)
        subst this
        exact hnot e he hb hon
      have h2 := wpOp_putIf hoj (hfree j oj hoj hji hjun hnot) (fun cs b => hsel i oi cs b hi) (fun cs b => hsel j oj cs b hoj) hQ hy h1
      have hfree' : ∀ k ok, ops[k]? = some ok → k ≠ i → (listed.setIfInBounds j true).getD k true = false →
          (∀ e ∈ ok.after, Region.binds md e = true → e.on ≠ i) → oi.apart ops ok = true := fun k ok hk hki hun hno => by
        refine hfree k ok hk hki ?_ hno
        by_cases hjk : j = k
        · subst hjk; exact hjun
        · rw [getD_set_ne true hjk] at hun; exact hun
      refine wpOp_mono (fun a' w' h3 => ⟨h3.2.1, ih (listed.setIfInBounds j true) a' w' hfree' (ready_mono hr (Ne.symm hji)) h3.1 (h3.2.1 hjn) ?_⟩) h2
      rw [Array.setIfInBounds_comm _ _ hji]
      exact h3.2.2

theorem wpAnyN_take {i : Nat} {oi : Oper} {v : Value} {fuel : Nat} {listed : Array Bool} {a : Act} {w : World} (hi : ops[i]? = some oi) (hwait : Region.waitsFor md ops n i = true)
    (hs : Region.noSelect ops = true) (hf : Region.free md ops listed i = true) (hr : (Region.ready md ops listed).contains i = true)
    (hQ : ∀ c a w, Q (.panic c) (a.put oi.dst v) w → Q (.panic c) a w) (hy : YieldsIf P ops S oi v a) (hS : S w)
    (h : wpAnyN P md ops Q S n fuel (listed.setIfInBounds i true) (a.put oi.dst v) w) : wpAnyN P md ops Q S n (fuel + 1) listed a w :=
  wpAnyN_first hi hwait (Region.noSelect_spec hs) hQ fuel listed a w (Region.free_spec hi hf) (by simpa using hr) hy hS h

theorem wpAnyN_done {listed : Array Bool} {a : Act} {w : World} (hr : Region.ready md ops listed = []) (h : Q .normal a w) :
    ∀ fuel, wpAnyN P md ops Q S n fuel listed a w
  | 0 => ⟨hr, h⟩
  | _ + 1 => ⟨fun _ => h, by rw [hr]; simp⟩

theorem wp_region_heldN {id : Nat} {a : Act} {w : World} (n : Nat) (hm : P.follows .mixedOrders = true) (hS : S w.drew)
    (h : S w.drew → wpAnyN P .any ops Q S n ops.size (Array.replicate ops.size false) a w.drew) : (Code.region id ops true).wp P Q a w :=
  wp_region_any hm (wpAny_of_heldN _ _ _ _ (h hS))

/-- The one operation that comes up next; it is not the last. -/
theorem wpAnyN_one {i : Nat} {o : Oper} {fuel : Nat} {listed : Array Bool} {a : Act} {w : World} (hr : Region.ready md ops listed = [i]) (ho : ops[i]? = some o)
    (h : ∀ K' : Act → World → Prop, Shut (∀ a w, S w → (S w → wpAnyN P md ops Q S n fuel (listed.setIfInBounds i true) a w) → K' a w) → if Region.wanted o (yielded ops a.tmps) = true then Oper.wp P o a w K' Q else K' (a.put o.dst undef) w) :
    wpAnyN P md ops Q S n (fuel + 1) listed a w := by
  refine ⟨fun h0 => absurd (hr ▸ h0) (by simp), ?_⟩
  rw [hr]
  intro j hj
  obtain rfl : j = i := by simpa using hj
  exact wpOp_step ho (fun K' hK => h K' (fun a w hS hW => hK a w ⟨fun _ => hS, hW hS⟩))
/-- The last one. -/
theorem wpAnyN_last {o : Oper} {fuel : Nat} {listed : Array Bool} {a : Act} {w : World} (hr : Region.ready md ops listed = [n]) (ho : ops[n]? = some o) (hr2 : Region.ready md ops (listed.setIfInBounds n true) = [])
    (h : ∀ K' : Act → World → Prop, Shut (∀ a w, Q .normal a w → K' a w) → if Region.wanted o (yielded ops a.tmps) = true then Oper.wp P o a w K' Q else K' (a.put o.dst undef) w) :
    wpAnyN P md ops Q S n (fuel + 1) listed a w := by
  refine ⟨fun h0 => absurd (hr ▸ h0) (by simp), ?_⟩
  rw [hr]
  intro j hj
  obtain rfl : j = n := by simpa using hj
  exact wpOp_step ho (fun K' hK => h K' (fun a w hW => hK a w ⟨fun h0 => absurd rfl h0, wpAnyN_done hr2 hW _⟩))
end
end Go.Proofs.YtjajoiahgfafgaaDoor
end
