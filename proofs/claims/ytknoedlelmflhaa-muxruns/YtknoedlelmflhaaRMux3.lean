/- The document's receiver: how it lies in memory; what has come of a call; a frame more. -/
import Derived.Test.YtknoedlelmflhaaRMux2
import Derived.Test.YtknoedlelmflhaaMux6
namespace Go.Proofs.Ytknoedlelmflhaa
open Go.RowKit Plain

/-- how the document's receiver keeps what has come: nothing yet, or 64 calls -/
structure Kept (r : Rcv) (L : List (Snd × Bool)) : Prop where
  len : L.length = 0 ∨ L.length = 64
  same : ∀ k (h : k < L.length), L[k].1.t = (r.f k).1 ∧ L[k].2 = (r.f k).2
  bare : L.length = 0 → ∀ k, r.f k = ([], false)
structure RIn (S : Nat → Prop) (base bx : Nat) (r : Rcv) (n : Nat) (L : List (Snd × Bool)) (v u : Value) (w : World) : Prop where
  head : w.heap[bx]? = some (.cells #[v, u] 56 (0, 0))
  own : w.ownsRow base 87 5 v L.length (rowsV L)
  ended : w.ownsRow base 3 1 u r.d.length (intV r.d)
  kept : Kept r L
  few : r.d.length ≤ n
  apart : v.ownBlock ≠ some bx ∧ u.ownBlock ≠ some bx ∧ Apart v u
  inS : S bx ∧ (∀ g, v.ownBlock = some g → S g) ∧ ∀ g, u.ownBlock = some g → S g
  lain : Lain base S w
  ok : OkR r
def RInAt (S : Nat → Prop) (base bx : Nat) (r : Rcv) (n : Nat) (w : World) : Prop := ∃ L v u, RIn S base bx r n L v u w

section
variable {S T : Nat → Prop} {base bx n : Nat} {r : Rcv} {L : List (Snd × Bool)} {v u : Value} {w w' : World}
theorem RIn.only (h : RIn S base bx r n L v u w) (ho : Only T w w') (hd : Dis S T) : RIn S base bx r n L v u w' :=
  ⟨(ho.block bx (h.lain bx h.inS.1).2 (hd bx h.inS.1)).trans h.head, own_only h.own ho (fun k hk => hd k (h.inS.2.1 k hk)), own_only h.ended ho (fun k hk => hd k (h.inS.2.2 k hk)), h.kept, h.few, h.apart, h.inS, h.lain.mono ho.size, h.ok⟩
theorem RInAt.only (h : RInAt S base bx r n w) (ho : Only T w w') (hd : Dis S T) : RInAt S base bx r n w' := by
  obtain ⟨L, v, u, h⟩ := h
  exact ⟨L, v, u, h.only ho hd⟩
theorem RIn.below (h : RIn S base bx r n L v u w) (hb : Below w.heap.size w w') : RIn S base bx r n L v u w' := h.only (Only.of_below (S := fun _ => False) hb) dis_none
theorem RInAt.below (h : RInAt S base bx r n w) (hb : Below w.heap.size w w') : RInAt S base bx r n w' := h.only (Only.of_below (S := fun _ => False) hb) dis_none
theorem RIn.facts (h : RIn S base bx r n L v u w) : w.cell? ⟨bx, 0, none⟩ = some v ∧ w.cell? ⟨bx, 1, none⟩ = some u ∧ w.frozen? ⟨bx, 0, none⟩ = false ∧ w.frozen? ⟨bx, 1, none⟩ = false :=
  ⟨cell_of_row _ _ _ _ _ _ h.head, cell_of_row _ _ _ _ _ _ h.head, frozen_of_row _ _ _ _ _ h.head, frozen_of_row _ _ _ _ _ h.head⟩
theorem RIn.wider (h : RIn S base bx r n L v u w) {T : Nat → Prop} (hST : ∀ b, S b → T b) (hL : Lain base T w) {n' : Nat} (hn : n ≤ n') : RIn T base bx r n' L v u w :=
  ⟨h.head, h.own, h.ended, h.kept, Nat.le_trans h.few hn, h.apart, ⟨hST _ h.inS.1, fun g hg => hST _ (h.inS.2.1 g hg), fun g hg => hST _ (h.inS.2.2 g hg)⟩, hL, h.ok⟩
/-- the cells of call k -/
theorem RIn.at_ {A : Option Addr} {c : Nat} (h : RIn S base bx r n L (.slice A L.length c) u w) {k : Nat} (hk : k < L.length) : ∃ g, A = some ⟨g, 0, none⟩ ∧ S g ∧ g ≠ bx ∧ g < w.heap.size ∧ ∃ x : Snd × Bool, L[k] = x ∧ x.1.t = (r.f k).1 ∧ x.2 = (r.f k).2 ∧
    w.cell? ⟨g, k * 5, none⟩ = some (.string ⟨x.1.t.toArray⟩) ∧ w.cell? ⟨g, k * 5 + 1, none⟩ = some (.int .i64 (x.1.s : Nat)) ∧ w.cell? ⟨g, k * 5 + 2, none⟩ = some (.int .i64 (x.1.a : Nat)) ∧ w.cell? ⟨g, k * 5 + 3, none⟩ = some (.bool x.1.b) ∧ w.cell? ⟨g, k * 5 + 4, none⟩ = some (.bool x.2) := by
  have ho := h.own
  obtain ⟨g, rfl, hg, hgs⟩ := row_some ho (by omega)
  refine ⟨g, rfl, h.inS.2.1 g rfl, fun e => h.apart.1 (by rw [e]; rfl), hgs, L[k], rfl, (h.kept.same k hk).1, (h.kept.same k hk).2, ?_, ?_, ?_, ?_, ?_⟩
  · exact row_cell ho hk (i := 0) (by omega)
  · exact row_cell ho hk (i := 1) (by omega)
  · exact row_cell ho hk (i := 2) (by omega)
  · exact row_cell ho hk (i := 3) (by omega)
  · exact row_cell ho hk (i := 4) (by omega)
end

section
variable {S : Nat → Prop} {base bx n : Nat} {r : Rcv}
set_option maxRecDepth 100000 in
set_option maxHeartbeats 1000000 in
theorem RText_any' (c : Int) (w : World) (h : RInAt S base bx r n w) :
    Calls Try.prog 20 #[.pointer (some ⟨bx, 0, none⟩), .int .i64 c] w (Ret w (.tuple #[.string ⟨(textP r c).1.toArray⟩, .bool (textP r c).2])) := by
  obtain ⟨L, v, u, h⟩ := h
  obtain ⟨A, c6, rfl, hc, hm, -⟩ := IsSlice.of_own h.own
  obtain ⟨c0, c1, -, -⟩ := h.facts
  by_cases hn : c < 0 ∨ (L.length : Int) ≤ c
  · have ht : textP r c = ([], false) := by
      unfold textP
      split
      · rfl
      · rcases h.kept.len with h0 | h0
        · exact h.kept.bare h0 _
        · omega
    rw [ht]
    by_cases hn0 : c < 0
    · have b1 : decide (c < 0) = true := decide_eq_true hn0
      clear h hn ht
      go_enter Try.func20, Try.ntmps20
      go_wp2_with (fail)
      go_ret2
      exact ⟨rfl, Below.refl _ _⟩
    · have b1 : decide (c < 0) = false := decide_eq_false hn0
      have b2 : decide ((L.length : Int) ≤ c) = true := decide_eq_true (by omega)
      clear h hn ht
      go_enter Try.func20, Try.ntmps20
      go_wp2_with (fail)
      go_ret2
      exact ⟨rfl, Below.refl _ _⟩
  · obtain ⟨k, rfl⟩ := Int.eq_ofNat_of_zero_le (show 0 ≤ c by omega)
    have hk : k < L.length := by omega
    have b1 : decide ((k : Int) < 0) = false := decide_eq_false (by omega)
    have b2 : decide ((L.length : Int) ≤ (k : Nat)) = false := decide_eq_false (by omega)
    have hl64 : L.length = 64 := by rcases h.kept.len with h0 | h0 <;> omega
    obtain ⟨g, rfl, -, -, -, x, hx, x1, x2, d0, d1, d2, d3, d4⟩ := h.at_ hk
    have ht : textP r (k : Int) = (x.1.t, x.2) := by
      unfold textP
      rw [if_neg (by omega)]
      simp only [Int.toNat_natCast]
      rw [x1, x2]
    rw [ht]
    clear h hn ht hx x1 x2 d1 d2 d3
    go_enter Try.func20, Try.ntmps20
    go_wp2_with (fail)
    go_quiet (fail)
    go_wp2_with (fail)
    go_ret2
    exact ⟨rfl, below_drewN (Below.refl _ _) _⟩
end
end Go.Proofs.Ytknoedlelmflhaa
