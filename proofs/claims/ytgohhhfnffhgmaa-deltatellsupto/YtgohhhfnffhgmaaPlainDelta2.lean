/- Plain: which blocks have a weak sum; the first that matches. No program in sight. -/
import Derived.Test.YtgohhhfnffhgmaaPlainDelta
namespace Go.Proofs.Ytgohhhfnffhgmaa.Plain

/-- the numbers of the first n blocks that have the weak sum x -/
def idxs (l : List Blk) (x : Nat) : Nat → List Nat
  | 0 => []
  | n + 1 => if (l[n]?.map (·.w)) = some x then idxs l x n ++ [n] else idxs l x n
theorem idxs_mem {l : List Blk} {x : Nat} : ∀ {n i : Nat}, i ∈ idxs l x n ↔ i < n ∧ l[i]?.map (·.w) = some x := by
  intro n
  induction n with
  | zero => intro i; simp [idxs]
  | succ n ih =>
    intro i
    unfold idxs
    by_cases h : l[n]?.map (·.w) = some x
    · rw [if_pos h, List.mem_append, ih, List.mem_singleton]
      constructor
      · rintro (⟨h1, h2⟩ | rfl)
        · exact ⟨by omega, h2⟩
        · exact ⟨by omega, h⟩
      · rintro ⟨h1, h2⟩
        by_cases e : i = n
        · exact .inr e
        · exact .inl ⟨by omega, h2⟩
    · rw [if_neg h, ih]
      constructor
      · rintro ⟨h1, h2⟩; exact ⟨by omega, h2⟩
      · rintro ⟨h1, h2⟩
        refine ⟨?_, h2⟩
        by_cases e : i = n
        · subst e; exact absurd h2 h
        · omega
theorem idxs_length (l : List Blk) (x n : Nat) : (idxs l x n).length ≤ n := by
  induction n with
  | zero => simp [idxs]
  | succ n ih =>
    unfold idxs
    split
    · simp; omega
    · omega
theorem idxs_sorted (l : List Blk) (x : Nat) : ∀ n, (idxs l x n).Pairwise (· < ·) := by
  intro n
  induction n with
  | zero => simp [idxs]
  | succ n ih =>
    unfold idxs
    split
    · rw [List.pairwise_append]
      refine ⟨ih, by simp, fun a ha b hb => ?_⟩
      rw [List.mem_singleton] at hb
      subst hb
      exact (idxs_mem.1 ha).1
    · exact ih
theorem fits_w {s : List UInt8} {b : Blk} (h : fits s b = true) : b.w = weak s := by
  unfold fits at h
  simp only [Bool.and_eq_true, decide_eq_true_eq] at h
  exact h.1.2
theorem match_found {l : List Blk} {s : List UInt8} {k : Nat} (hk : k < (idxs l (weak s) l.length).length) (hi : (idxs l (weak s) l.length)[k] < l.length)
    (hf : fits s l[(idxs l (weak s) l.length)[k]] = true) (hno : ∀ j (h : j < k) b, l[(idxs l (weak s) l.length)[j]]? = some b → fits s b = false) : matchP l s = some (idxs l (weak s) l.length)[k] := by
  unfold matchP
  rw [List.findIdx?_eq_some_iff_getElem]
  refine ⟨hi, hf, fun i hik => ?_⟩
  have hil : i < l.length := by omega
  intro hfi
  have hm : i ∈ idxs l (weak s) l.length := idxs_mem.2 ⟨hil, by rw [List.getElem?_eq_getElem hil]; simp [fits_w hfi]⟩
  obtain ⟨j, hj, rfl⟩ := List.getElem_of_mem hm
  have hjk : j < k := by
    rcases Nat.lt_trichotomy j k with h | h | h
    · exact h
    · subst h; omega
    · have := List.pairwise_iff_getElem.1 (idxs_sorted l (weak s) l.length) k j hk hj h
      omega
  have := hno j hjk _ (List.getElem?_eq_getElem hil)
  rw [hfi] at this; cases this
theorem match_none {l : List Blk} {s : List UInt8} (hno : ∀ j (h : j < (idxs l (weak s) l.length).length) b, l[(idxs l (weak s) l.length)[j]]? = some b → fits s b = false) : matchP l s = none := by
  unfold matchP
  rw [List.findIdx?_eq_none_iff]
  intro b hb
  obtain ⟨i, hi, rfl⟩ := List.getElem_of_mem hb
  cases hf : fits s l[i] with
  | false => rfl
  | true =>
    have hm : i ∈ idxs l (weak s) l.length := idxs_mem.2 ⟨hi, by rw [List.getElem?_eq_getElem hi]; simp [fits_w hf]⟩
    obtain ⟨j, hj, he⟩ := List.getElem_of_mem hm
    have := hno j hj l[i] (by rw [he]; exact List.getElem?_eq_getElem hi)
    rw [this] at hf; cases hf
/-- the number as the program says it -/
def matchI (l : List Blk) (s : List UInt8) : Int := match matchP l s with | some i => i | none => -1
theorem matchI_some {l : List Blk} {s : List UInt8} {i : Nat} (h : matchP l s = some i) : matchI l s = i := by unfold matchI; rw [h]
theorem matchI_none {l : List Blk} {s : List UInt8} (h : matchP l s = none) : matchI l s = -1 := by unfold matchI; rw [h]
theorem match_lt {l : List Blk} {s : List UInt8} {i : Nat} (h : matchP l s = some i) : i < l.length := by
  unfold matchP at h
  rw [List.findIdx?_eq_some_iff_getElem] at h
  exact h.1
/-- block by block: the first k do not fit -/
def NoneOf (l : List Blk) (s : List UInt8) (k : Nat) : Prop := ∀ j (h : j < l.length), j < k → fits s l[j] = false
theorem NoneOf.zero (l : List Blk) (s : List UInt8) : NoneOf l s 0 := fun j h hj => by omega
theorem NoneOf.next {l : List Blk} {s : List UInt8} {k : Nat} (h : NoneOf l s k) (hk : k < l.length) (hf : fits s l[k] = false) : NoneOf l s (k + 1) := fun j h1 h2 => by
  by_cases e : j = k
  · subst e; exact hf
  · exact h j h1 (by omega)
theorem NoneOf.all {l : List Blk} {s : List UInt8} (h : NoneOf l s l.length) : matchP l s = none := by
  unfold matchP
  rw [List.findIdx?_eq_none_iff]
  intro b hb
  obtain ⟨i, hi, rfl⟩ := List.getElem_of_mem hb
  exact h i hi hi
theorem NoneOf.found {l : List Blk} {s : List UInt8} {k : Nat} (h : NoneOf l s k) (hk : k < l.length) (hf : fits s l[k] = true) : matchP l s = some k := by
  unfold matchP
  rw [List.findIdx?_eq_some_iff_getElem]
  refine ⟨hk, hf, fun j hj => ?_⟩
  rw [h j (by omega) hj]; simp
theorem fits_n {s : List UInt8} {b : Blk} (h : b.n ≠ s.length) : fits s b = false := by simp [fits, h]
theorem fits_w' {s : List UInt8} {b : Blk} (h : b.w ≠ weak s) : fits s b = false := by simp [fits, h]
theorem fits_s {s : List UInt8} {b : Blk} (hn : b.n = s.length) (hw : b.w = weak s) : fits s b = decide (b.s = sha s) := by simp [fits, hn, hw]
end Go.Proofs.Ytgohhhfnffhgmaa.Plain
