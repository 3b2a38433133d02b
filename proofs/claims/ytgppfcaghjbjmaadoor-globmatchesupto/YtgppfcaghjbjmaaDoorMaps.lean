/- A map that the call has made, as a function from keys to elements. -/
import Derived.Test.YtgppfcaghjbjmaaDoorLib
import Derived.Maps.Own
import Derived.Maps.Keyed
namespace Go.Proofs.YtgppfcaghjbjmaaDoor
open Go.RowKit Go.Maps Go.ChangeMaps

/-- Block b is a map of at most n entries that holds f. -/
def MapIs (P : Program) (k : TypeId) (w : World) (b n : Nat) (f : Value → Option Value) : Prop :=
  ∃ es clock, w.heap[b]? = some (.map es clock) ∧ (∀ e ∈ es.toList, ∃ l, keyOf P k e.key = some l) ∧ es.size ≤ n ∧
    (∀ (i j : Nat) (e e' : MapEntry), es.toList[i]? = some e → es.toList[j]? = some e' → e.key = e'.key → i = j) ∧ ∀ x v, f x = some v ↔ ∃ e ∈ es.toList, e.key = x ∧ e.val = v

section
variable {P : Program} {k e t : TypeId} {w w' : World} {b n : Nat} {f : Value → Option Value}
theorem MapIs.made (w : World) (P : Program) (k : TypeId) : MapIs P k (w.alloc (.map #[] 0)) w.heap.size 0 (fun _ => none) :=
  ⟨#[], 0, heap_alloc_new w _, by simp, by simp, by simp, by simp⟩
theorem MapIs.lt (h : MapIs P k w b n f) : b < w.heap.size := by
  obtain ⟨es, c, hb, _⟩ := h
  exact (Array.getElem?_eq_some_iff.1 hb).1
theorem MapIs.same (h : MapIs P k w b n f) (hb : w'.heap[b]? = w.heap[b]?) : MapIs P k w' b n f := by
  obtain ⟨es, c, h1, h2⟩ := h
  exact ⟨es, c, hb.trans h1, h2⟩
theorem MapIs.below (h : MapIs P k w b n f) (hb : Below w.heap.size w w') : MapIs P k w' b n f := h.same (hb.block _ h.lt)
theorem MapIs.grown (h : MapIs P k w b n f) {r : Option Nat} (hg : w.grownBy w' r) (hne : some b ≠ r) : MapIs P k w' b n f := h.same (hg.block _ h.lt hne)
theorem MapIs.mono (h : MapIs P k w b n f) {n' : Nat} (hn : n ≤ n') : MapIs P k w b n' f := by
  obtain ⟨es, c, h1, h2, h3, h4⟩ := h
  exact ⟨es, c, h1, h2, by omega, h4⟩

/-- 'm[k]', 'v, ok := m[k]' -/
theorem MapIs.look (h : MapIs P k w b n f) (K : Keyed P k) (ht : P.underlying t = some (.map k e)) {z : Value} (hz : (zeroValue e).run P w = .ok z w) {x : Value} {lx : Lit} (hx : keyOf P k x = some lx) (ok : Bool) :
    (Instr.lookup t (.map (some b)) x ok).run P w = .ok (if ok then .tuple #[(f x).getD z, .bool (f x).isSome] else (f x).getD z) w := by
  obtain ⟨es, clock, hb, hk, hn, hd, hf⟩ := h
  have hu := run_underlying ht w
  have hc := K.check w es.isEmpty hx
  have hobj : (getObj b).run P w = .ok (.map es clock) w := by simp [getObj, Sem.run, hb]
  rcases K.find w hx es.toList hk with ⟨hfind, hno⟩ | ⟨j, e0, hfind, hj, hkey⟩
  · have hfx : f x = none := by
      cases hv : f x with
      | none => rfl
      | some v => obtain ⟨e0, he0, h1, _⟩ := (hf x v).1 hv; exact absurd h1 (hno e0 he0)
    rw [hfx]
    unfold Instr.lookup
    simp only [Sem.run_bind, hu, Result.andThen, hobj, hc, hfind, Sem.run_pure, hz]
    cases ok <;> rfl
  · have hfx : f x = some e0.val := (hf x e0.val).2 ⟨e0, List.mem_of_getElem? hj, hkey, rfl⟩
    rw [hfx]
    unfold Instr.lookup
    simp only [Sem.run_bind, hu, Result.andThen, hobj, hc, hfind, Sem.run_pure]
    cases ok <;> rfl

/-- 'm[k] = v' -/
theorem MapIs.store (h : MapIs P k w b n f) (K : Keyed P k) (ht : P.underlying t = some (.map k e)) {x v : Value} {lx : Lit} (hx : keyOf P k x = some lx) (g : Value → Option Value) (hg : ∀ y, y ≠ x → g y = f y) (hgx : g x = some v) :
    ∃ o, (∀ w1 : World, w1.heap = w.heap → (Instr.mapUpdate t (.map (some b)) x v).run P w1 = .ok () { w1 with heap := w.heap.setIfInBounds b o }) ∧ ∀ w2 : World, w2.heap[b]? = some o → MapIs P k w2 b (n + 1) g := by
  obtain ⟨es, clock, hb, hk, hn, hd, hf⟩ := h
  have hlt := (Array.getElem?_eq_some_iff.1 hb).1
  have hu := fun w1 : World => run_underlying ht w1
  have hc := fun w1 : World => K.check w1 false hx
  have hobj : ∀ w1 : World, w1.heap = w.heap → (getObj b).run P w1 = .ok (.map es clock) w1 := fun w1 e => by simp [getObj, Sem.run, e, hb]
  have hset : ∀ (w1 : World), w1.heap = w.heap → ∀ o, (setObj b o).run P w1 = .ok () { w1 with heap := w.heap.setIfInBounds b o } := fun w1 e o => by simp [setObj, Sem.run, e, hb]
  rcases K.find w hx es.toList hk with ⟨hfind, hno⟩ | ⟨j, e0, hfind, hj, hkey⟩
  · refine ⟨_, fun w1 e => ?_, fun w2 h2 => ⟨es.push { key := x, val := v, born := clock }, clock + 1, h2, ?_, ?_, ?_, ?_⟩⟩
    · have hfind1 : (Instr.findKey k x es.toList).run P w1 = .ok none w1 := by
        rcases K.find w1 hx es.toList hk with ⟨h1, _⟩ | ⟨j, e0, _, hj, hkey⟩
        · exact h1
        · exact absurd hkey (hno e0 (List.mem_of_getElem? hj))
      unfold Instr.mapUpdate
      simp only [Sem.run_bind, hu, Result.andThen, hobj w1 e, hc, hfind1, hset w1 e]
    · intro e1 he1
      rw [Array.toList_push, List.mem_append, List.mem_singleton] at he1
      rcases he1 with he1 | rfl
      · exact hk e1 he1
      · exact ⟨lx, hx⟩
    · simp; omega
    · intro i j e1 e2 h1 h2 he
      rw [Array.toList_push] at h1 h2
      rw [List.getElem?_append] at h1 h2
      split at h1 <;> split at h2
      · exact hd i j e1 e2 h1 h2 he
      · rename_i hi hj'
        have : e2 = { key := x, val := v, born := clock } := by
          rcases hq : j - es.toList.length with _ | q
          · rw [hq] at h2; simpa using h2.symm
          · rw [hq] at h2; simp at h2
        subst this
        exact absurd he (hno e1 (List.mem_of_getElem? h1))
      · rename_i hi hj'
        have : e1 = { key := x, val := v, born := clock } := by
          rcases hq : i - es.toList.length with _ | q
          · rw [hq] at h1; simpa using h1.symm
          · rw [hq] at h1; simp at h1
        subst this
        exact absurd he.symm (hno e2 (List.mem_of_getElem? h2))
      · rename_i hi hj'
        have a1 : i - es.toList.length = 0 := by
          rcases hq : i - es.toList.length with _ | q
          · rfl
          · rw [hq] at h1; simp at h1
        have a2 : j - es.toList.length = 0 := by
          rcases hq : j - es.toList.length with _ | q
          · rfl
          · rw [hq] at h2; simp at h2
        omega
    · intro y u
      rw [Array.toList_push]
      by_cases hy : y = x
      · subst hy
        rw [hgx]
        constructor
        · intro h; injection h with h; subst h; exact ⟨_, List.mem_append_right _ (List.mem_singleton.2 rfl), rfl, rfl⟩
        · rintro ⟨e1, he1, h1, h2⟩
          rw [List.mem_append, List.mem_singleton] at he1
          rcases he1 with he1 | rfl
          · exact absurd h1 (hno e1 he1)
          · rw [← h2]
      · rw [hg y hy, hf y u]
        constructor
        · rintro ⟨e1, he1, h1⟩; exact ⟨e1, List.mem_append_left _ he1, h1⟩
        · rintro ⟨e1, he1, h1, h2⟩
          rw [List.mem_append, List.mem_singleton] at he1
          rcases he1 with he1 | rfl
          · exact ⟨e1, he1, h1, h2⟩
          · exact absurd h1.symm hy
  · have hjs : j < es.toList.length := (List.getElem?_eq_some_iff.1 hj).1
    have hej : es[j]? = some e0 := by rw [← Array.getElem?_toList]; exact hj
    have hstay := fun w1 : World => K.stays w1 hx
    have hml : (es.modify j fun e => { e with key := x, val := v }).toList = es.toList.modify j (fun e => { e with key := x, val := v }) := by simp
    have hgm : ∀ i (e1 : MapEntry), (es.toList.modify j (fun e => { e with key := x, val := v }))[i]? = some e1 → ∃ e2, es.toList[i]? = some e2 ∧ e1.key = e2.key ∧ (if i = j then e1.val = v else e1 = e2) := by
      intro i e1 h1
      rw [List.getElem?_modify] at h1
      cases h2 : es.toList[i]? with
      | none => rw [h2] at h1; simp at h1
      | some e2 =>
        rw [h2] at h1
        replace h1 : (if j = i then fun e : MapEntry => { e with key := x, val := v } else id) e2 = e1 := by
          by_cases q : j = i
          · subst q; simpa using h1
          · rw [if_neg q]; simpa [q] using h1
        refine ⟨e2, rfl, ?_⟩
        by_cases hij : j = i
        · subst hij
          rw [hj] at h2
          injection h2 with h2
          subst h2
          rw [if_pos rfl] at h1
          subst h1
          simp [hkey]
        · rw [if_neg hij] at h1
          simp only [id_eq] at h1
          subst h1
          simp [Ne.symm hij]
    refine ⟨_, fun w1 e => ?_, fun w2 h2 => ⟨es.modify j fun e => { e with key := x, val := v }, clock, h2, ?_, ?_, ?_, ?_⟩⟩
    · have hfind1 : (Instr.findKey k x es.toList).run P w1 = .ok (some (j, e0.val)) w1 := by
        rcases K.find w1 hx es.toList hk with ⟨_, h1⟩ | ⟨j1, e1, h1, hj1, hkey1⟩
        · exact absurd hkey (h1 e0 (List.mem_of_getElem? hj))
        · obtain rfl := hd j1 j e1 e0 hj1 hj (hkey1.trans hkey.symm)
          rw [hj] at hj1
          injection hj1 with hj1
          subst hj1
          exact h1
      unfold Instr.mapUpdate
      simp only [Sem.run_bind, hu, Result.andThen, hobj w1 e, hc, hfind1]
      rw [hej]
      simp only [Option.map_some, Option.getD_some, hkey, hstay, hset w1 e]
    · intro e1 he1
      rw [hml] at he1
      obtain ⟨i, hi⟩ := List.mem_iff_getElem?.1 he1
      obtain ⟨e2, h2, h3, _⟩ := hgm i e1 hi
      rw [h3]; exact hk e2 (List.mem_of_getElem? h2)
    · simp; omega
    · intro i j' e1 e2 h1 h2 he
      rw [hml] at h1 h2
      obtain ⟨e1', q1, q2, _⟩ := hgm i e1 h1
      obtain ⟨e2', r1, r2, _⟩ := hgm j' e2 h2
      exact hd i j' e1' e2' q1 r1 (by rw [← q2, ← r2]; exact he)
    · intro y u
      rw [hml]
      by_cases hy : y = x
      · subst hy
        rw [hgx]
        constructor
        · intro h
          injection h with h
          subst h
          refine ⟨{ e0 with key := y, val := v }, List.mem_iff_getElem?.2 ⟨j, ?_⟩, rfl, rfl⟩
          rw [List.getElem?_modify, hj]; simp
        · rintro ⟨e1, he1, h1, h2⟩
          obtain ⟨i, hi⟩ := List.mem_iff_getElem?.1 he1
          obtain ⟨e2, q1, q2, q3⟩ := hgm i e1 hi
          have hij := hd i j e2 e0 q1 hj (by rw [← q2, h1, hkey])
          rw [if_pos hij] at q3
          rw [← h2, q3]
      · rw [hg y hy, hf y u]
        constructor
        · rintro ⟨e1, he1, h1, h2⟩
          obtain ⟨i, hi⟩ := List.mem_iff_getElem?.1 he1
          have hij : j ≠ i := fun e => by
            subst e
            rw [hj] at hi
            injection hi with hi
            subst hi
            exact hy (h1.symm.trans hkey)
          refine ⟨e1, List.mem_iff_getElem?.2 ⟨i, ?_⟩, h1, h2⟩
          rw [List.getElem?_modify, hi]; simp [hij]
        · rintro ⟨e1, he1, h1, h2⟩
          obtain ⟨i, hi⟩ := List.mem_iff_getElem?.1 he1
          obtain ⟨e2, q1, q2, q3⟩ := hgm i e1 hi
          have hij : i ≠ j := fun e => by
            subst e
            rw [hj] at q1
            injection q1 with q1
            subst q1
            exact hy (by rw [← h1, q2, hkey])
          rw [if_neg hij] at q3
          subst q3
          exact ⟨e1, List.mem_of_getElem? q1, h1, h2⟩
end
end Go.Proofs.YtgppfcaghjbjmaaDoor
