/- delta.Make: what its loop's steps turn. -/
import Derived.Test.YtgohhhfnffhgmaaDelta8
namespace Go.Proofs.Ytgohhhfnffhgmaa
open Go.RowKit Plain Go.Maps Go.ChangeMaps

section
variable {D mb M Mm O F base : Nat} {data : List UInt8} {lv : Value} {a n from' : Nat} {ops init : List Stp} {o : Stp} {v : Value} {W W' : World} {g c : Nat}
theorem MS.count (h : MS D mb M Mm O F base data lv a n from' (init ++ [o]) (.slice (some ⟨g, 0, none⟩) (init ++ [o]).length c) W) (x : Int) :
    MS D mb M Mm O F base data lv a n from' (init ++ [{ o with count := x }]) (.slice (some ⟨g, 0, none⟩) (init ++ [o]).length c) (W.setCell ⟨g, init.length * 3 + 1, none⟩ (.int .i64 x)) ∧ Only (Part M O F base) W (W.setCell ⟨g, init.length * 3 + 1, none⟩ (.int .i64 x)) := by
  have hs := h.size
  have ho := h.ord
  have hg : base ≤ g := (h.own.lt g rfl).1
  have h1 := OpsAt.count h.own rfl x
  have hb : ∀ b, b < base → (W.setCell ⟨g, init.length * 3 + 1, none⟩ (.int .i64 x)).heap[b]? = W.heap[b]? := fun b hb => Below.heap_setCell W ⟨g, _, none⟩ _ b (by show b ≠ g; omega)
  refine ⟨⟨?_, ?_, ?_, ?_, ?_, h1.1, h.ord, by simpa [World.setCell] using hs⟩, only_gb h1.2 (.inr (.inr (.inr hg)))⟩
  · rw [hb _ (by omega)]; exact h.d
  · exact h.m.same (hb _ (by omega))
  · rw [hb _ (by omega)]; exact h.mm
  · rw [hb _ (by omega)]; exact h.o
  · rw [hb _ (by omega)]; exact h.f
theorem MS.from_ (h : MS D mb M Mm O F base data lv a n from' ops v W) (x : Nat) :
    MS D mb M Mm O F base data lv a n x ops v (W.setCell ⟨F, 0, none⟩ (.int .i64 (x : Nat))) ∧ Only (Part M O F base) W (W.setCell ⟨F, 0, none⟩ (.int .i64 (x : Nat))) := by
  have hs := h.size
  have ho := h.ord
  have hb : ∀ b, b ≠ F → (W.setCell ⟨F, 0, none⟩ (.int .i64 (x : Nat))).heap[b]? = W.heap[b]? := fun b hb => Below.heap_setCell W ⟨F, 0, none⟩ _ b hb
  refine ⟨⟨?_, ?_, ?_, ?_, ?_, ?_, h.ord, by simpa [World.setCell] using hs⟩, only_gb (gb_set (gb_refl W _) (.inl rfl) _) (.inr (.inr (.inl rfl)))⟩
  · rw [hb _ (by omega)]; exact h.d
  · exact h.m.same (hb _ (by omega))
  · rw [hb _ (by omega)]; exact h.mm
  · rw [hb _ (by omega)]; exact h.o
  · rw [heap_set h.f 0 _]; rfl
  · exact own_keep h.own (fun b hb' _ => hb b (by omega))
theorem MS.put' (h : MS D mb M Mm O F base data lv a n from' ops v W) {ob : Obj} {w5 : World} {v' : Value} {x : Stp} (hg : (W.alloc ob).grownBy w5 v.ownBlock) (hown : w5.ownsRow base 46 3 v' (ops.length + 1) (rowsE stpV ops ++ stpV x)) :
    MS D mb M Mm O F base data lv a n from' (ops ++ [x]) v' (w5.setCell ⟨O, 0, none⟩ v') ∧ Only (Part M O F base) W (w5.setCell ⟨O, 0, none⟩ v') :=
  h.put (o := ob) ⟨hg.os, hg.tape, hg.output, hg.size, hg.block⟩ hown
theorem MS.frozen (h : MS D mb M Mm O F base data lv a n from' ops v W) : W.frozen? ⟨O, 0, none⟩ = false ∧ W.frozen? ⟨F, 0, none⟩ = false := ⟨frozen_of_row _ _ _ _ _ h.o, frozen_of_row _ _ _ _ _ h.f⟩
end
theorem piece_D {data : List UInt8} {size a n : Nat} (hn : n = min size (data.length - a)) : piece data a n = pieceD data size a := by
  unfold piece pieceD
  by_cases q : size ≤ data.length - a
  · rw [hn, Nat.min_eq_left q]
  · rw [hn, Nat.min_eq_right (by omega), List.take_of_length_le (by simp), List.take_of_length_le (by simp; omega)]
/-- the one loop's state and what the other has made -/
structure Mid (data : List UInt8) (l : List Blk) (size a from' : Nat) (ops : List Stp) : Prop where
  le : from' ≤ a
  in_ : a ≤ data.length
  leads : ∃ opsR, Leads data l size a opsR ∧ Both data ⟨a, from', ops⟩ a opsR
  ok : OkOps l.length from' ops
theorem Mid.start (data : List UInt8) (l : List Blk) (size : Nat) : Mid data l size 0 0 [] := ⟨Nat.le_refl _, Nat.zero_le _, ⟨[], Leads.start, Both.start data⟩, OkOps.nil _⟩
theorem flush_ok {data : List UInt8} {L a from' : Nat} {ops : List Stp} (h : OkOps L from' ops) (hle : from' ≤ a) (ha : a ≤ data.length) : OkOps L a (flushP data from' a ops) := by
  unfold flushP
  split
  · exact h.add (by omega) _ ⟨by show (0 : Int) ≤ 0; omega, by show (0 : Int) ≤ 0; omega, by show (0 : Int) + 0 ≤ L; omega, by show ((data.drop from').take (a - from')).length ≤ a; simp; omega⟩
  · exact h.mono (by omega)
theorem flush_len {data : List UInt8} {a from' : Nat} {ops : List Stp} : (flushP data from' a ops).length ≤ ops.length + 1 := by
  unfold flushP
  split <;> simp
theorem Mid.next_none {data : List UInt8} {l : List Blk} {size a from' : Nat} {ops : List Stp} (h : Mid data l size a from' ops) (hs : 1 ≤ size) (hlt : a < data.length) (hm : matchP l (pieceD data size a) = none) : Mid data l size (a + 1) from' ops := by
  obtain ⟨h1, h2, ⟨opsR, h3, h4⟩, h5⟩ := h
  have hst := (h4.step (l := l) (size := size) hs hlt).1
  have e1 : stepD data l size ⟨a, from', ops⟩ = ⟨a + 1, from', ops⟩ := by unfold stepD; rw [hm]
  have e2 : (stepR data l size a opsR).1 = a + 1 := by unfold stepR; rw [hm]
  rw [e1, e2] at hst
  exact ⟨by omega, by omega, ⟨_, h3.next hs hlt (by rw [← e2]), hst⟩, h5⟩
theorem Mid.next_some {data : List UInt8} {l : List Blk} {size a from' i n : Nat} {ops ops' : List Stp} (h : Mid data l size a from' ops) (hs : 1 ≤ size) (hlt : a < data.length) (hm : matchP l (pieceD data size a) = some i) (hn : n = min size (data.length - a)) (ho : ops' = copyP (flushP data from' a ops) i)
    (hok : OkOps l.length (a + n) ops') : Mid data l size (a + n) (a + n) ops' := by
  obtain ⟨h1, h2, ⟨opsR, h3, h4⟩, h5⟩ := h
  have hst := (h4.step (l := l) (size := size) hs hlt).1
  have hl := pieceD_length (data := data) (size := size) a
  rw [← hn] at hl
  have e1 : stepD data l size ⟨a, from', ops⟩ = ⟨a + n, a + n, ops'⟩ := by unfold stepD; rw [hm]; simp only [hl]; rw [ho]
  have e2 : (stepR data l size a opsR).1 = a + n := by unfold stepR; rw [hm]; simp only [hl]
  rw [e1, e2] at hst
  exact ⟨Nat.le_refl _, by omega, ⟨_, h3.next hs hlt (by rw [← e2]), hst⟩, hok⟩
theorem Mid.done {data : List UInt8} {l : List Blk} {size from' : Nat} {ops : List Stp} (h : Mid data l size data.length from' ops) : flushP data from' data.length ops = makeP data l size := by
  obtain ⟨h1, h2, ⟨opsR, h3, h4⟩, h5⟩ := h
  rw [h3.done (Nat.le_refl _)]
  exact h4.same.symm
theorem copy_last {init : List Stp} {o : Stp} {i : Nat} (h1 : 0 < o.count) (h2 : o.from' + o.count = i) : copyP (init ++ [o]) i = init ++ [{ o with count := o.count + 1 }] := by simp [copyP, h1, h2]
theorem copy_new {ops : List Stp} {i : Nat} (h : ∀ o, ops.getLast? = some o → ¬ (0 < o.count ∧ o.from' + o.count = i)) : copyP ops i = ops ++ [⟨i, 1, []⟩] := by
  unfold copyP
  cases hl : ops.getLast? with
  | none =>
    have : ops = [] := by simpa using hl
    subst this; rfl
  | some p => simp only; rw [if_neg (h p hl)]
end Go.Proofs.Ytgohhhfnffhgmaa
