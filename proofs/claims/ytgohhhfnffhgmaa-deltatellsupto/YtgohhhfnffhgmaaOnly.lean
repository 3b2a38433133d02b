/- Only the blocks of a set, and what is new, have turned. -/
import Derived.Test.YtgohhhfnffhgmaaTwo
namespace Go.Proofs.Ytgohhhfnffhgmaa
open Go.RowKit

structure Only (S : Nat → Prop) (w w' : World) : Prop where
  os : w'.os = w.os
  tape : w'.tape = w.tape
  output : w'.output = w.output
  size : w.heap.size ≤ w'.heap.size
  block : ∀ k, k < w.heap.size → ¬ S k → w'.heap[k]? = w.heap[k]?

/-- S, and what is new. -/
def Grow (S : Nat → Prop) (w w' : World) : Nat → Prop := fun b => S b ∨ (w.heap.size ≤ b ∧ b < w'.heap.size)
/-- All of S lies in the heap, and not below base. -/
def Lain (base : Nat) (S : Nat → Prop) (w : World) : Prop := ∀ b, S b → base ≤ b ∧ b < w.heap.size
def Dis (S T : Nat → Prop) : Prop := ∀ b, S b → ¬ T b

section
variable {S T : Nat → Prop} {a w w' : World} {base : Nat}
theorem Only.refl (S : Nat → Prop) (w : World) : Only S w w := ⟨rfl, rfl, rfl, Nat.le_refl _, fun _ _ _ => rfl⟩
theorem Only.trans (h : Only S a w) (k : Only S w w') : Only S a w' :=
  ⟨k.os.trans h.os, k.tape.trans h.tape, k.output.trans h.output, Nat.le_trans h.size k.size, fun i hi hn => (k.block i (Nat.lt_of_lt_of_le hi h.size) hn).trans (h.block i hi hn)⟩
/-- What is new may turn again. -/
theorem Only.more (h : Only S a w) (k : Only (Grow S a w) w w') : Only S a w' :=
  ⟨k.os.trans h.os, k.tape.trans h.tape, k.output.trans h.output, Nat.le_trans h.size k.size, fun i hi hn => (k.block i (Nat.lt_of_lt_of_le hi h.size) (fun g => by
    rcases g with g | g
    · exact hn g
    · omega)).trans (h.block i hi hn)⟩
theorem Only.of_below (h : Below w.heap.size w w') : Only S w w' := ⟨h.os, h.tape, h.output, h.size, fun k hk _ => h.block k hk⟩
theorem Only.of_below' {B : Nat} (h : Below B w w') (hS : ∀ b, B ≤ b → b < w.heap.size → S b) : Only S w w' := ⟨h.os, h.tape, h.output, h.size, fun k hk hn => h.block k (by
  by_cases hB : B ≤ k
  · exact absurd (hS k hB hk) hn
  · omega)⟩
theorem Only.of_gb {r : Option Nat} (h : w.grownBy w' r) (hr : ∀ k, r = some k → S k) : Only S w w' := ⟨h.os, h.tape, h.output, h.size, fun k hk hn => h.block k hk (fun e => hn (hr k e.symm))⟩
theorem Only.below (h : Only S a w) {B : Nat} (hB : B ≤ a.heap.size) (hS : ∀ b, S b → B ≤ b) : Below B a w :=
  ⟨h.os, h.tape, h.output, h.size, fun k hk => h.block k (Nat.lt_of_lt_of_le hk hB) (fun s => by have := hS k s; omega)⟩
theorem Only.mono (h : Only S w w') (hT : ∀ b, S b → T b) : Only T w w' := ⟨h.os, h.tape, h.output, h.size, fun k hk hn => h.block k hk (fun s => hn (hT k s))⟩
theorem Only.set (h : Only S a w) {p : Addr} (hp : S p.block ∨ a.heap.size ≤ p.block) (u : Value) : Only S a (w.setCell p u) :=
  ⟨h.os, h.tape, h.output, by simpa [World.setCell] using h.size, fun i hi hn => (Below.heap_setCell w p u i (by
    rintro rfl
    rcases hp with hp | hp
    · exact hn hp
    · omega)).trans (h.block i hi hn)⟩
theorem Only.alloc (h : Only S a w) (o : Obj) : Only S a (w.alloc o) := h.trans (Only.of_below ((Below.refl _ _).alloc (Nat.le_refl _) o))
theorem Only.drew (h : Only S a w) : Only S a w.drew := ⟨h.os, h.tape, h.output, h.size, h.block⟩
theorem Only.drewN (h : Only S a w) (n : Nat) : Only S a (w.drewN n) := ⟨h.os, h.tape, h.output, h.size, h.block⟩
theorem Lain.grow (h : Lain base S w) (hb : base ≤ w.heap.size) (hs : w.heap.size ≤ w'.heap.size) : Lain base (Grow S w w') w' := by
  rintro b (hb' | hb')
  · have := h b hb'; omega
  · omega
theorem Lain.mono (h : Lain base S w) (hs : w.heap.size ≤ w'.heap.size) : Lain base S w' := fun b hb => by have := h b hb; omega
theorem Dis.grow (h : Dis S T) (hT : Lain base T w) : Dis (Grow S w w') T := by
  rintro b (hb | hb) ht
  · exact h b hb ht
  · have := hT b ht; omega
theorem Dis.symm (h : Dis S T) : Dis T S := fun b hb ht => h b ht hb
theorem grow_in {b : Nat} (h : S b) : Grow S w w' b := .inl h
theorem own_only {e : TypeId} {size n : Nat} {v : Value} {xs : List Value} (h : w.ownsRow base e size v n xs) (ho : Only S w w') (hv : ∀ k, v.ownBlock = some k → ¬ S k) : w'.ownsRow base e size v n xs := by
  refine ⟨h.1, ?_⟩
  rcases h.2 with h2 | ⟨g, cap, cur, rfl, hbg, hg, hr⟩
  · exact .inl h2
  · refine .inr ⟨g, cap, cur, rfl, hbg, ?_, hr⟩
    rw [ho.block g (Array.getElem?_eq_some_iff.1 hg).1 (hv g rfl)]
    exact hg
end
end Go.Proofs.Ytgohhhfnffhgmaa
