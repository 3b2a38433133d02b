/- Plain: a sender's calls, a receiver's calls. -/
import Derived.Test.YtknoedlelmflhaaLib
namespace Go.Proofs.Ytknoedlelmflhaa.Plain

/-- a call of a sender: its text, whether something was sent, how much was sent, how much is acked -/
structure Snd where
  t : List UInt8
  b : Bool
  s : Nat
  a : Nat
def snd0 : Snd := ⟨[], false, 0, 0⟩
def waitsB (c : Snd) : Bool := decide (c.s < c.t.length) || (c.t.isEmpty && !c.b)
def wayC (c : Snd) : Nat := c.s - c.a
def mayB (win : Nat) (c : Snd) : Bool := waitsB c && decide (wayC c < win)
/-- the first k calls' numbers that may be sent -/
def mays (win : Nat) (cs : List Snd) (k : Nat) : List Nat := (List.range k).filter fun i => mayB win (cs.getD i snd0)
def okC (c : Snd) : Prop := c.a ≤ c.s ∧ c.s ≤ c.t.length ∧ c.t.length ≤ 65536
def OkS (cs : List Snd) : Prop := cs.length ≤ 64 ∧ ∀ c ∈ cs, okC c

def putP (cs : List Snd) (t : List UInt8) : List Snd × Int := if 64 ≤ cs.length ∨ 65536 < t.length then (cs, -1) else (cs ++ [⟨t, false, 0, 0⟩], cs.length)
def sizeC (win size : Nat) (c : Snd) : Nat := min (min (c.t.length - c.s) size) (win - wayC c)
def sentC (win size : Nat) (c : Snd) : Snd := { c with s := c.s + sizeC win size c, b := true }
def pickP (win : Nat) (cs : List Snd) (pick : Int) : Nat := (mays win cs cs.length).getD (pick.toNat % (mays win cs cs.length).length) 0
def ackP (cs : List Snd) (call n : Int) : List Snd × Int :=
  if call < 0 ∨ (cs.length : Int) ≤ call then (cs, 160) else
    let c := cs.getD call.toNat snd0
    if n < c.a ∨ (c.s : Int) < n then (cs, 160) else (cs.set call.toNat { c with a := n.toNat }, 0)
def wayP (cs : List Snd) (call : Int) : Nat := if call < 0 ∨ (cs.length : Int) ≤ call then 0 else wayC (cs.getD call.toNat snd0)
def leftK (cs : List Snd) (k : Nat) : Nat := ((cs.take k).filter waitsB).length
def leftP (cs : List Snd) : Nat := (cs.filter waitsB).length

theorem leftK_all (cs : List Snd) : leftK cs cs.length = leftP cs := by simp [leftK, leftP]
theorem leftK_succ {cs : List Snd} {k : Nat} (h : k < cs.length) : leftK cs (k + 1) = leftK cs k + (if waitsB cs[k] then 1 else 0) := by
  unfold leftK
  rw [List.take_succ_eq_append_getElem h, List.filter_append, List.length_append]
  by_cases hw : waitsB cs[k] <;> simp [hw]
theorem leftK_le (cs : List Snd) (k : Nat) : leftK cs k ≤ k := by
  unfold leftK
  exact Nat.le_trans (List.length_filter_le _ _) (by simp; omega)
theorem getD_get {α : Type} {l : List α} {d : α} {k : Nat} (h : k < l.length) : l.getD k d = l[k] := by simp [List.getD, h]
theorem mays_succ {win : Nat} {cs : List Snd} {k : Nat} (h : k < cs.length) : mays win cs (k + 1) = mays win cs k ++ (if mayB win cs[k] then [k] else []) := by
  unfold mays
  rw [List.range_succ, List.filter_append]
  congr 1
  rw [← getD_get (d := snd0) h]
  by_cases hw : mayB win (cs.getD k snd0) <;> simp only [hw, List.filter_cons, List.filter_nil, if_true, if_false, Bool.false_eq_true]
theorem mays_le (win : Nat) (cs : List Snd) (k : Nat) : (mays win cs k).length ≤ k := by
  unfold mays
  exact Nat.le_trans (List.length_filter_le _ _) (by simp)
theorem mays_mem {win k i : Nat} {cs : List Snd} : i ∈ mays win cs k ↔ i < k ∧ mayB win (cs.getD i snd0) = true := by
  simp [mays]
theorem pick_mem {win : Nat} {cs : List Snd} (pick : Int) (h : mays win cs cs.length ≠ []) : pickP win cs pick ∈ mays win cs cs.length := by
  have hl : 0 < (mays win cs cs.length).length := List.length_pos_iff.2 h
  unfold pickP
  rw [getD_get (Nat.mod_lt _ hl)]
  exact List.getElem_mem _
theorem pick_lt {win : Nat} {cs : List Snd} (pick : Int) (h : mays win cs cs.length ≠ []) : pickP win cs pick < cs.length ∧ mayB win (cs.getD (pickP win cs pick) snd0) = true :=
  mays_mem.1 (pick_mem pick h)
theorem OkS.at_ {cs : List Snd} (h : OkS cs) {k : Nat} (hk : k < cs.length) : okC cs[k] := h.2 _ (List.getElem_mem hk)
theorem OkS.set {cs : List Snd} (h : OkS cs) (k : Nat) {c : Snd} (hc : okC c) : OkS (cs.set k c) :=
  ⟨by simpa using h.1, fun d hd => by
    rcases List.mem_or_eq_of_mem_set hd with hd | rfl
    · exact h.2 d hd
    · exact hc⟩
theorem OkS.nil : OkS [] := ⟨by simp, fun _ h => by cases h⟩
theorem OkS.put {cs : List Snd} (h : OkS cs) (t : List UInt8) : OkS (putP cs t).1 := by
  unfold putP
  split
  · exact h
  · rename_i hn
    refine ⟨by simp; omega, fun c hc => ?_⟩
    simp only [List.mem_append, List.mem_singleton] at hc
    rcases hc with hc | rfl
    · exact h.2 c hc
    · exact ⟨Nat.le_refl _, by simp, by simp; omega⟩
theorem okC_sent {win size : Nat} {c : Snd} (h : okC c) : okC (sentC win size c) := by
  obtain ⟨h1, h2, h3⟩ := h
  have : sizeC win size c ≤ c.t.length - c.s := by unfold sizeC; omega
  exact ⟨by simp only [sentC]; omega, by simp only [sentC]; omega, h3⟩
theorem OkS.ack {cs : List Snd} (h : OkS cs) (call n : Int) : OkS (ackP cs call n).1 := by
  unfold ackP
  split
  · exact h
  · rename_i h1
    dsimp only
    split
    · exact h
    · rename_i h2
      have hk : call.toNat < cs.length := by omega
      refine h.set _ ?_
      rw [getD_get hk] at h2 ⊢
      have := h.at_ hk
      exact ⟨by show n.toNat ≤ cs[call.toNat].s; omega, this.2.1, this.2.2⟩

/-- a receiver: of each number what has come and whether it is done; which are done -/
structure Rcv where
  f : Nat → List UInt8 × Bool
  d : List Nat
def rcv0 : Rcv := ⟨fun _ => ([], false), []⟩
def takes (r : Rcv) (c a : Int) (t : List UInt8) : Bool :=
  !(decide (c < 0) || decide (64 ≤ c) || (r.f c.toNat).2 || decide (a ≠ (r.f c.toNat).1.length) || decide (65536 - ((r.f c.toNat).1.length : Int) < t.length))
def takeP (r : Rcv) (c a : Int) (t : List UInt8) (l : Bool) : Rcv × Nat × Int :=
  if takes r c a t then (⟨fun k => if k = c.toNat then ((r.f c.toNat).1 ++ t, l) else r.f k, if l then r.d ++ [c.toNat] else r.d⟩, ((r.f c.toNat).1 ++ t).length, 0) else (r, 0, 160)
def textP (r : Rcv) (c : Int) : List UInt8 × Bool := if c < 0 ∨ 64 ≤ c then ([], false) else r.f c.toNat
def OkR (r : Rcv) : Prop := ∀ k, (r.f k).1.length ≤ 65536 ∧ (64 ≤ k → r.f k = ([], false))
theorem OkR.nil : OkR rcv0 := fun _ => ⟨by simp [rcv0], fun _ => rfl⟩
theorem OkR.take {r : Rcv} (h : OkR r) (c a : Int) (t : List UInt8) (l : Bool) : OkR (takeP r c a t l).1 := by
  unfold takeP
  split
  · rename_i ht
    simp [takes] at ht
    intro k
    dsimp only
    by_cases hk : k = c.toNat
    · rw [if_pos hk]
      exact ⟨by simp; omega, fun h64 => by omega⟩
    · rw [if_neg hk]
      exact h k
  · exact h
end Go.Proofs.Ytknoedlelmflhaa.Plain
