/- A receiver: how it lies in memory; a new one; what has come of a call. -/
import Derived.Test.YtknoedlelmflhaaMux1
import Derived.Test.YtknoedlelmflhaaMaps
import Derived.Test.YtknoedlelmflhaaLoads
import Derived.Test.YtknoedlelmflhaaWholeRows
import Derived.StillTailTactics
import Derived.RegionTactic
import Derived.BigRegion
namespace Go.Proofs.Ytknoedlelmflhaa
open Go.RowKit Go.Maps Plain

def intV (l : List Nat) : List Value := l.map fun i => .int .i64 (i : Nat)
def tkRow (x : List UInt8 × Bool) : Array Value := #[.string ⟨x.1.toArray⟩, .bool false, .bool x.2]
def mapOf (Pb : Nat → Option Nat) : Value → Option Value
  | .int .i64 k => if 0 ≤ k ∧ k < 64 then (Pb k.toNat).map ptrV else none
  | _ => none
theorem mapOf_in {Pb : Nat → Option Nat} {k : Nat} (h : k < 64) : mapOf Pb (.int .i64 (k : Nat)) = (Pb k).map ptrV := by
  unfold mapOf; dsimp only; rw [if_pos (by omega)]; rfl
theorem mapOf_out {Pb : Nat → Option Nat} {k : Int} (h : k < 0 ∨ 64 ≤ k) : mapOf Pb (.int .i64 k) = none := by
  unfold mapOf; dsimp only; rw [if_neg (by omega)]

structure InIs (S : Nat → Prop) (base bi : Nat) (r : Rcv) (n m : Nat) (Pb : Nat → Option Nat) (v : Value) (w : World) : Prop where
  head : w.heap[bi]? = some (.cells #[.map (some m), v] 76 (0, 0))
  maps : MapIs Try.prog 3 w m n (mapOf Pb)
  own : w.ownsRow base 3 1 v r.d.length (intV r.d)
  rows : ∀ k b, Pb k = some b → k < 64 ∧ w.heap[b]? = some (.cells (tkRow (r.f k)) 85 (0, 0))
  bare : ∀ k, Pb k = none → r.f k = ([], false)
  inj : ∀ k k' b, Pb k = some b → Pb k' = some b → k = k'
  few : r.d.length ≤ n
  apart : bi ≠ m ∧ v.ownBlock ≠ some bi ∧ v.ownBlock ≠ some m ∧ (∀ k b, Pb k = some b → b ≠ bi ∧ b ≠ m ∧ v.ownBlock ≠ some b)
  inS : S bi ∧ S m ∧ (∀ k b, Pb k = some b → S b) ∧ ∀ g, v.ownBlock = some g → S g
  lain : Lain base S w
  ok : OkR r
def InAt (S : Nat → Prop) (base bi : Nat) (r : Rcv) (n : Nat) (w : World) : Prop := ∃ m Pb v, InIs S base bi r n m Pb v w

section
variable {S T : Nat → Prop} {base bi n m : Nat} {r : Rcv} {Pb : Nat → Option Nat} {v : Value} {w w' : World}
theorem InIs.only (h : InIs S base bi r n m Pb v w) (ho : Only T w w') (hd : Dis S T) : InIs S base bi r n m Pb v w' := by
  have hb : ∀ b, S b → w'.heap[b]? = w.heap[b]? := fun b hb => ho.block b (h.lain b hb).2 (hd b hb)
  exact ⟨(hb bi h.inS.1).trans h.head, h.maps.same (hb m h.inS.2.1), own_only h.own ho (fun k hk => hd k (h.inS.2.2.2 k hk)),
    fun k b hk => ⟨(h.rows k b hk).1, (hb b (h.inS.2.2.1 k b hk)).trans (h.rows k b hk).2⟩, h.bare, h.inj, h.few, h.apart, h.inS, h.lain.mono ho.size, h.ok⟩
theorem InAt.only (h : InAt S base bi r n w) (ho : Only T w w') (hd : Dis S T) : InAt S base bi r n w' := by
  obtain ⟨m, Pb, v, h⟩ := h
  exact ⟨m, Pb, v, h.only ho hd⟩
theorem InIs.below (h : InIs S base bi r n m Pb v w) (hb : Below w.heap.size w w') : InIs S base bi r n m Pb v w' := h.only (Only.of_below (S := fun _ => False) hb) dis_none
theorem InAt.below (h : InAt S base bi r n w) (hb : Below w.heap.size w w') : InAt S base bi r n w' := h.only (Only.of_below (S := fun _ => False) hb) dis_none
theorem InIs.facts (h : InIs S base bi r n m Pb v w) : w.cell? ⟨bi, 0, none⟩ = some (.map (some m)) ∧ w.cell? ⟨bi, 1, none⟩ = some v :=
  ⟨cell_of_row _ _ _ _ _ _ h.head, cell_of_row _ _ _ _ _ _ h.head⟩
theorem InIs.wider (h : InIs S base bi r n m Pb v w) (hST : ∀ b, S b → T b) (hL : Lain base T w) {n' : Nat} (hn : n ≤ n') : InIs T base bi r n' m Pb v w :=
  ⟨h.head, h.maps.mono hn, h.own, h.rows, h.bare, h.inj, Nat.le_trans h.few hn, h.apart, ⟨hST _ h.inS.1, hST _ h.inS.2.1, fun k b hk => hST _ (h.inS.2.2.1 k b hk), fun g hg => hST _ (h.inS.2.2.2 g hg)⟩, hL, h.ok⟩
theorem zero_ptr_tk (w : World) : (zeroValue 83).run Try.prog w = .ok (.pointer none) w := by kernel_rfl
theorem key_int (c : Int) (h1 : -9223372036854775808 ≤ c) (h2 : c ≤ 9223372036854775807) : keyOf Try.prog 3 (.int .i64 c) = some (.int .i64 c) :=
  keyOf_int_mk Try.underlying3 (by simp [Lit.wf, IntKind.min, IntKind.max, IntKind.signed, IntKind.bits]; omega)
theorem InIs.look (h : InIs S base bi r n m Pb v w) (c : Int) (h1 : -9223372036854775808 ≤ c) (h2 : c ≤ 9223372036854775807) :
    (Instr.lookup 74 (.map (some m)) (.int .i64 c) false).run Try.prog w = .ok ((mapOf Pb (.int .i64 c)).getD (.pointer none)) w := by
  have := h.maps.look (int_keyed Try.underlying3) Try.underlying74 (zero_ptr_tk w) (key_int c h1 h2) false
  simpa using this
end

set_option maxHeartbeats 1000000 in
theorem NewIn_any (base : Nat) (w : World) (hb : base ≤ w.heap.size) :
    Calls Try.prog 8 #[] w fun e w' => e = .returned (.pointer (some ⟨w.heap.size + 1, 0, none⟩)) ∧ Below w.heap.size w w' ∧
      InAt (fun b => w.heap.size ≤ b ∧ b < w'.heap.size) base (w.heap.size + 1) rcv0 0 w' := by
  have hmk : (Instr.makeMap 74 none).run Try.prog w = .ok (.map (some w.heap.size)) (w.alloc (.map #[] 0)) := rfl
  go_enter Try.func8, Try.ntmps8
  go_wp2_with (fail)
  go_ret
  have hb2 : Below w.heap.size w ((w.alloc (.map #[] 0)).alloc (.cells #[.map (some w.heap.size), .slice none 0 0] 76)) := ((Below.refl _ _).alloc (Nat.le_refl _) _).alloc (by simp) _
  refine ⟨rfl, hb2, w.heap.size, fun _ => none, .slice none 0 0, ?_⟩
  have hm := MapIs.made w Try.prog 3
  refine ⟨heap_new' _ _ _ (by simp), ?_, World.ownsRow_nil _ _ _ _, fun k b h => by simp at h, fun k _ => rfl, fun k k' b h => by simp at h, by simp [rcv0], ⟨by omega, by simp [Value.ownBlock], by simp [Value.ownBlock], fun k b h => by simp at h⟩,
    ⟨by simp, by simp; omega, fun k b h => by simp at h, by simp [Value.ownBlock]⟩, fun b hb' => by simp at hb' ⊢; omega, OkR.nil⟩
  have h0 : mapOf (fun _ => none) = fun _ => none := by
    funext x; unfold mapOf; split <;> simp
  rw [h0]
  exact hm.below ((Below.refl _ _).alloc (by simp) _)

section
variable {S : Nat → Prop} {base bi n : Nat} {r : Rcv}
set_option maxHeartbeats 1000000 in
theorem InText_any (c : Int) (w : World) (h : InAt S base bi r n w) (h1 : -9223372036854775808 ≤ c) (h2 : c ≤ 9223372036854775807) :
    Calls Try.prog 15 #[.pointer (some ⟨bi, 0, none⟩), .int .i64 c] w (Ret w (.tuple #[.string ⟨(textP r c).1.toArray⟩, .bool (textP r c).2])) := by
  obtain ⟨m, Pb, v, h⟩ := h
  obtain ⟨c0, c1⟩ := h.facts
  have hl := h.look c h1 h2
  have hl' : ∀ k, (Instr.lookup 74 (.map (some m)) (.int .i64 c) false).run Try.prog (w.drewN k) = .ok ((mapOf Pb (.int .i64 c)).getD (.pointer none)) (w.drewN k) := fun k => (h.below (below_drewN (Below.refl _ _) k)).look c h1 h2
  by_cases hc : c < 0 ∨ 64 ≤ c
  · have ht : textP r c = ([], false) := by unfold textP; rw [if_pos hc]
    rw [mapOf_out hc] at hl
    simp only [Option.getD_none] at hl
    rw [ht]
    clear hl' hc h h1 h2
    go_enter Try.func15, Try.ntmps15
    go_wp2_with (fail)
    go_ret2
    exact ⟨rfl, Below.refl _ _⟩
  · obtain ⟨k, rfl⟩ := Int.eq_ofNat_of_zero_le (show 0 ≤ c by omega)
    have hk : k < 64 := by omega
    have ht : textP r (k : Int) = r.f k := by unfold textP; rw [if_neg hc]; rfl
    rw [mapOf_in hk] at hl hl'
    rw [ht]
    cases hp : Pb k with
    | none =>
      rw [h.bare k hp]
      rw [hp] at hl
      simp only [Option.map_none, Option.getD_none] at hl
      clear hl' hc h h1 h2
      go_enter Try.func15, Try.ntmps15
      go_wp2_with (fail)
      go_ret2
      exact ⟨rfl, Below.refl _ _⟩
    | some b =>
      rw [hp] at hl hl'
      simp only [Option.map_some, Option.getD_some, ptrV] at hl hl'
      obtain ⟨-, hrow⟩ := h.rows k b hp
      have q0 := cell_of_row w b 0 _ _ _ hrow
      have q2 := cell_of_row w b 2 _ _ _ hrow
      simp [tkRow] at q0 q2
      clear hc h h1 h2 hrow hp ht
      go_enter Try.func15, Try.ntmps15
      go_wp2_with (fail)
      go_quiet (fail)
      go_wp2_with (fail)
      go_ret2
      exact ⟨rfl, below_drewN (Below.refl _ _) _⟩
end
end Go.Proofs.Ytknoedlelmflhaa
