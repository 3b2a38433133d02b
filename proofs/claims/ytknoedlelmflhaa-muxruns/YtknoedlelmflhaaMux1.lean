/- A sender: how it lies in memory; what is asked of it and turns nothing. -/
import Derived.Test.YtknoedlelmflhaaOnly
import Derived.Test.YtknoedlelmflhaaPlain16
import Derived.Deep.QuietTactic
namespace Go.Proofs.Ytknoedlelmflhaa
open Go.RowKit Plain

def sndRow (c : Snd) : Array Value := #[.string ⟨c.t.toArray⟩, .bool c.b, .int .i64 (c.s : Nat), .int .i64 (c.a : Nat)]
def frmV (c a : Int) (t : List UInt8) (l : Bool) : Value := .agg #[.int .i64 c, .int .i64 a, .string ⟨t.toArray⟩, .bool l]
def ptrV (b : Nat) : Value := .pointer (some ⟨b, 0, none⟩)

structure OutIs (S : Nat → Prop) (base bo win size : Nat) (cs : List Snd) (v : Value) (ps : List Nat) (w : World) : Prop where
  head : w.heap[bo]? = some (.cells #[.int .i64 (win : Nat), .int .i64 (size : Nat), v] 73 (0, 0))
  own : w.ownsRow base 77 1 v cs.length (ps.map ptrV)
  rows : ∀ k (h : k < cs.length) (h' : k < ps.length), w.heap[ps[k]]? = some (.cells (sndRow cs[k]) 81 (0, 0))
  nodup : ps.Nodup
  apart : bo ∉ ps ∧ v.ownBlock ≠ some bo ∧ ∀ g, v.ownBlock = some g → g ∉ ps
  inS : S bo ∧ (∀ b ∈ ps, S b) ∧ ∀ g, v.ownBlock = some g → S g
  lain : Lain base S w
  ok : OkS cs
def OutAt (S : Nat → Prop) (base bo win size : Nat) (cs : List Snd) (w : World) : Prop := ∃ v ps, OutIs S base bo win size cs v ps w

section
variable {S T : Nat → Prop} {base bo win size : Nat} {cs : List Snd} {v : Value} {ps : List Nat} {w w' : World}
theorem OutIs.len (h : OutIs S base bo win size cs v ps w) : ps.length = cs.length := by have := h.own.1; simpa using this
theorem OutIs.only (h : OutIs S base bo win size cs v ps w) (ho : Only T w w') (hd : Dis S T) : OutIs S base bo win size cs v ps w' := by
  have hb : ∀ b, S b → w'.heap[b]? = w.heap[b]? := fun b hb => ho.block b (h.lain b hb).2 (hd b hb)
  exact ⟨(hb bo h.inS.1).trans h.head, own_only h.own ho (fun k hk => hd k (h.inS.2.2 k hk)), fun k h1 h2 => (hb _ (h.inS.2.1 _ (List.getElem_mem h2))).trans (h.rows k h1 h2), h.nodup, h.apart, h.inS, h.lain.mono ho.size, h.ok⟩
theorem OutAt.only (h : OutAt S base bo win size cs w) (ho : Only T w w') (hd : Dis S T) : OutAt S base bo win size cs w' := by
  obtain ⟨v, ps, h⟩ := h
  exact ⟨v, ps, h.only ho hd⟩
theorem dis_none : Dis S (fun _ => False) := fun _ _ h => h
theorem OutIs.below (h : OutIs S base bo win size cs v ps w) (hb : Below w.heap.size w w') : OutIs S base bo win size cs v ps w' := h.only (Only.of_below (S := fun _ => False) hb) dis_none
theorem OutAt.below (h : OutAt S base bo win size cs w) (hb : Below w.heap.size w w') : OutAt S base bo win size cs w' := h.only (Only.of_below (S := fun _ => False) hb) dis_none
theorem OutIs.facts (h : OutIs S base bo win size cs v ps w) : w.cell? ⟨bo, 0, none⟩ = some (.int .i64 (win : Nat)) ∧ w.cell? ⟨bo, 1, none⟩ = some (.int .i64 (size : Nat)) ∧ w.cell? ⟨bo, 2, none⟩ = some v :=
  ⟨cell_of_row _ _ _ _ _ _ h.head, cell_of_row _ _ _ _ _ _ h.head, cell_of_row _ _ _ _ _ _ h.head⟩
/-- the slice of the calls -/
theorem OutIs.slice (h : OutIs S base bo win size cs v ps w) : ∃ A c, v = .slice A cs.length c ∧ cs.length ≤ c ∧ c ≤ maxLen ∧ Reads w 1 A cs.length (ps.map ptrV) := IsSlice.of_own h.own
theorem OutIs.at_ (h : OutIs S base bo win size cs v ps w) {A : Option Addr} (hA : Reads w 1 A cs.length (ps.map ptrV)) {k : Nat} (hk : k < cs.length) : ∃ ad b, A = some ad ∧ w.cell? (ad.add k) = some (.pointer (some ⟨b, 0, none⟩)) ∧ ps[k]? = some b ∧
    w.heap[b]? = some (.cells (sndRow cs[k]) 81 (0, 0)) := by
  obtain ⟨ad, u, hA, hu, hc⟩ := hA.at_ hk
  have hk' : k < ps.length := by rw [h.len]; exact hk
  refine ⟨ad, ps[k], hA, ?_, List.getElem?_eq_getElem hk', h.rows k hk hk'⟩
  rw [hc, ← hu]
  simp [ptrV, hk']
end
theorem snd_facts {w : World} {b : Nat} {c : Snd} {T : TypeId} (h : w.heap[b]? = some (.cells (sndRow c) T (0, 0))) :
    w.cell? ⟨b, 0, none⟩ = some (.string ⟨c.t.toArray⟩) ∧ w.cell? ⟨b, 1, none⟩ = some (.bool c.b) ∧ w.cell? ⟨b, 2, none⟩ = some (.int .i64 (c.s : Nat)) ∧ w.cell? ⟨b, 3, none⟩ = some (.int .i64 (c.a : Nat)) ∧
    (∀ j, j < 4 → w.frozen? ⟨b, j, none⟩ = false) :=
  ⟨cell_of_row _ _ _ _ _ _ h, cell_of_row _ _ _ _ _ _ h, cell_of_row _ _ _ _ _ _ h, cell_of_row _ _ _ _ _ _ h, fun j _ => by unfold World.frozen?; rw [h]; simp⟩

set_option maxHeartbeats 1000000 in
theorem waits_any (b : Nat) (c : Snd) (w : World) (h : w.heap[b]? = some (.cells (sndRow c) 81 (0, 0))) (hok : okC c) :
    Calls Try.prog 29 #[.pointer (some ⟨b, 0, none⟩)] w (Ret w (.bool (waitsB c))) := by
  obtain ⟨t, g, s, a⟩ := c
  obtain ⟨c0, c1, c2, c3, -⟩ := snd_facts h
  clear h
  simp only at c0 c1 c2 c3
  obtain ⟨h1, h2, h3⟩ := hok
  simp only at h1 h2 h3
  by_cases q : s < t.length
  · have hw : waitsB ⟨t, g, s, a⟩ = true := by simp [waitsB, q]
    have q' : decide ((s : Int) < (t.length : Int)) = true := by simpa using q
    rw [hw]
    clear hw
    go_enter Try.func29, Try.ntmps29
    go_wp2_with (fail)
    go_quiet (fail)
    go_wp2_with (fail)
    go_ret
    exact ⟨rfl, below_drewN (Below.refl _ _) _⟩
  · have q' : decide ((s : Int) < (t.length : Int)) = false := by simpa using q
    by_cases q2 : t.isEmpty = true
    · have hw : waitsB ⟨t, g, s, a⟩ = !g := by simp only [waitsB, q2]; simp [q]
      rw [hw]
      clear hw
      go_enter Try.func29, Try.ntmps29
      go_wp2_with (fail)
      go_quiet (fail)
      go_wp2_with (fail)
      go_ret
      exact ⟨rfl, below_drewN (Below.refl _ _) _⟩
    · have q2 : t.isEmpty = false := by simpa using q2
      have hw : waitsB ⟨t, g, s, a⟩ = false := by simp only [waitsB, q2]; simp [q]
      rw [hw]
      clear hw
      go_enter Try.func29, Try.ntmps29
      go_wp2_with (fail)
      go_quiet (fail)
      go_wp2_with (fail)
      go_ret
      exact ⟨rfl, below_drewN (Below.refl _ _) _⟩

set_option maxHeartbeats 1000000 in
theorem way_any (b : Nat) (c : Snd) (w : World) (h : w.heap[b]? = some (.cells (sndRow c) 81 (0, 0))) (hok : okC c) :
    Calls Try.prog 30 #[.pointer (some ⟨b, 0, none⟩)] w (Ret w (.int .i64 (wayC c : Nat))) := by
  obtain ⟨t, g, s, a⟩ := c
  obtain ⟨c0, c1, c2, c3, -⟩ := snd_facts h
  clear h
  simp only at c0 c1 c2 c3
  obtain ⟨h1, h2, h3⟩ := hok
  simp only at h1 h2 h3
  have hw : ((wayC ⟨t, g, s, a⟩ : Nat) : Int) = (s : Int) - a := by simp [wayC]; omega
  rw [hw]
  clear hw
  go_enter Try.func30, Try.ntmps30
  go_wp2_with (fail)
  go_quiet (fail)
  go_wp2_with (fail)
  go_ret
  exact ⟨rfl, below_drewN (Below.refl _ _) _⟩
end Go.Proofs.Ytknoedlelmflhaa
