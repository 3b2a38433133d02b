/- Plain: blocks of a text, what is told of them, the steps by which a text is made. No program in sight. -/
import Derived.Test.YtgohhhfnffhgmaaPlainWeak
import Derived.Test.YtgohhhfnffhgmaaPlainSha
namespace Go.Proofs.Ytgohhhfnffhgmaa.Plain

/-- what is told of a block: its weak sum, its fingerprint, its length -/
structure Blk where
  w : Nat
  s : List UInt8
  n : Int
/-- a step: a copy of blocks, or a text -/
structure Stp where
  from' : Int
  count : Int
  t : List UInt8
def blockP (base : List UInt8) (size i : Nat) : List UInt8 := (base.drop (i * size)).take size
/-- how many blocks -/
def countB (n size : Nat) : Nat := (n + size - 1) / size
def blocksP (base : List UInt8) (size : Nat) : List (List UInt8) := (List.range (countB base.length size)).map (blockP base size)
def told (b : List UInt8) : Blk := ⟨weak b, sha b, b.length⟩
def signP (base : List UInt8) (size : Nat) : List Blk := (blocksP base size).map told
/-- does the block match? -/
def fits (s : List UInt8) (b : Blk) : Bool := decide (b.n = s.length) && decide (b.w = weak s) && decide (b.s = sha s)
def matchP (l : List Blk) (s : List UInt8) : Option Nat := l.findIdx? (fits s)
def flushP (data : List UInt8) (from' at' : Nat) (ops : List Stp) : List Stp := if from' < at' then ops ++ [⟨0, 0, (data.drop from').take (at' - from')⟩] else ops
/-- a copy of block i more -/
def copyP (ops : List Stp) (i : Nat) : List Stp :=
  match ops.getLast? with
  | some o => if 0 < o.count ∧ o.from' + o.count = i then ops.dropLast ++ [{ o with count := o.count + 1 }] else ops ++ [⟨i, 1, []⟩]
  | none => [⟨i, 1, []⟩]
/-- a byte of text more -/
def byteP (ops : List Stp) (c : UInt8) : List Stp :=
  match ops.getLast? with
  | some o => if o.count = 0 then ops.dropLast ++ [{ o with t := o.t ++ [c] }] else ops ++ [⟨0, 0, [c]⟩]
  | none => [⟨0, 0, [c]⟩]
theorem countB_lt {n size i : Nat} (hs : 1 ≤ size) : i < countB n size ↔ i * size < n := by
  unfold countB
  rw [Nat.lt_div_iff_mul_lt (by omega)]
  omega
/-- the last step is no text -/
def Copies (ops : List Stp) : Prop := ∀ o, ops.getLast? = some o → 0 < o.count
theorem copyP_copies {ops : List Stp} (i : Nat) : Copies (copyP ops i) := by
  intro o ho
  unfold copyP at ho
  cases hl : ops.getLast? with
  | none => rw [hl] at ho; simp at ho; subst ho; show (0 : Int) < 1; decide
  | some p =>
    rw [hl] at ho
    simp only at ho
    split at ho
    · rename_i h
      simp at ho; subst ho; show 0 < p.count + 1; omega
    · simp at ho; subst ho; show (0 : Int) < 1; decide
theorem byte_flush {data : List UInt8} {from' at' : Nat} {ops : List Stp} (h : Copies ops) (hf : from' ≤ at') (hat : at' < data.length) : byteP (flushP data from' at' ops) data[at'] = flushP data from' (at' + 1) ops := by
  unfold flushP
  by_cases hlt : from' < at'
  · rw [if_pos hlt, if_pos (by omega)]
    unfold byteP
    simp only [List.getLast?_append, List.getLast?_singleton, Option.some_or, if_true, List.dropLast_concat]
    congr 3
    rw [show at' + 1 - from' = (at' - from') + 1 by omega, List.take_succ_eq_append_getElem (by simp; omega)]
    congr 2
    rw [List.getElem_drop]
    congr 1; omega
  · obtain rfl : from' = at' := by omega
    rw [if_neg (by omega), if_pos (by omega)]
    have e : (data.drop from').take (from' + 1 - from') = [data[from']] := by
      rw [show from' + 1 - from' = 1 by omega, List.drop_eq_getElem_cons hat]; rfl
    rw [e]
    unfold byteP
    cases hl : ops.getLast? with
    | none =>
      have : ops = [] := by simpa using hl
      subst this; rfl
    | some o =>
      have := h o hl
      simp only
      rw [if_neg (by omega)]

/-- the state of the one that makes steps: where it is, where the text at hand begins, the steps -/
structure Mk where
  at' : Nat
  from' : Nat
  ops : List Stp
def pieceD (data : List UInt8) (size at' : Nat) : List UInt8 := (data.drop at').take size
def stepD (data : List UInt8) (l : List Blk) (size : Nat) (m : Mk) : Mk :=
  match matchP l (pieceD data size m.at') with
  | none => ⟨m.at' + 1, m.from', m.ops⟩
  | some i => ⟨m.at' + (pieceD data size m.at').length, m.at' + (pieceD data size m.at').length, copyP (flushP data m.from' m.at' m.ops) i⟩
def stepR (data : List UInt8) (l : List Blk) (size : Nat) (at' : Nat) (ops : List Stp) : Nat × List Stp :=
  match matchP l (pieceD data size at') with
  | none => (at' + 1, byteP ops (data.getD at' 0))
  | some i => (at' + (pieceD data size at').length, copyP ops i)
/-- the one state and the other -/
structure Both (data : List UInt8) (m : Mk) (at' : Nat) (ops : List Stp) : Prop where
  at_ : at' = m.at'
  le : m.from' ≤ m.at'
  in_ : m.at' ≤ data.length
  copies : Copies m.ops
  same : ops = flushP data m.from' m.at' m.ops
theorem Both.start (data : List UInt8) : Both data ⟨0, 0, []⟩ 0 [] := ⟨rfl, Nat.le_refl _, Nat.zero_le _, fun o h => (by cases h), rfl⟩
theorem Both.step {data : List UInt8} {l : List Blk} {size : Nat} {m : Mk} {at' : Nat} {ops : List Stp} (h : Both data m at' ops) (hs : 1 ≤ size) (hlt : at' < data.length) :
    Both data (stepD data l size m) (stepR data l size at' ops).1 (stepR data l size at' ops).2 ∧ at' < (stepR data l size at' ops).1 := by
  obtain ⟨rfl, h2, h3, h4, h5⟩ := h
  have hp : 1 ≤ (pieceD data size m.at').length ∧ m.at' + (pieceD data size m.at').length ≤ data.length := by
    unfold pieceD; simp; omega
  unfold stepD stepR
  cases hm : matchP l (pieceD data size m.at') with
  | none =>
    refine ⟨⟨rfl, by show m.from' ≤ m.at' + 1; omega, by show m.at' + 1 ≤ data.length; omega, h4, ?_⟩, by show m.at' < m.at' + 1; omega⟩
    show byteP ops (data.getD m.at' 0) = flushP data m.from' (m.at' + 1) m.ops
    rw [h5, List.getD_eq_getElem?_getD, List.getElem?_eq_getElem hlt]
    exact byte_flush h4 h2 hlt
  | some i =>
    refine ⟨⟨rfl, Nat.le_refl _, hp.2, copyP_copies i, ?_⟩, by show m.at' < m.at' + _; omega⟩
    show copyP ops i = flushP data _ _ (copyP (flushP data m.from' m.at' m.ops) i)
    rw [← h5]
    unfold flushP
    rw [if_neg (by show ¬ (m.at' + _ < m.at' + _); omega)]
end Go.Proofs.Ytgohhhfnffhgmaa.Plain
