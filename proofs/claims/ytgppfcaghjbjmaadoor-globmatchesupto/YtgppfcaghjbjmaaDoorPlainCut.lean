/- Plain laws of texts cut at a byte. -/
import Derived.Lib.Split
namespace Go.Proofs.YtgppfcaghjbjmaaDoor.Plain

def cons1 (x : UInt8) : List (List UInt8) → List (List UInt8)
  | [] => [[x]]
  | p :: r => (x :: p) :: r
/-- a text cut behind each c; of c there stays k -/
def cutAt (c : UInt8) (k : List UInt8) : List UInt8 → List (List UInt8)
  | [] => [[]]
  | x :: s => if x = c then k :: cutAt c k s else cons1 x (cutAt c k s)
theorem cutAt_cons (c : UInt8) (k : List UInt8) (x : UInt8) (s : List UInt8) : cutAt c k (x :: s) = if x = c then k :: cutAt c k s else cons1 x (cutAt c k s) := rfl
theorem cutAt_ne (c : UInt8) (k : List UInt8) (s : List UInt8) : cutAt c k s ≠ [] := by
  cases s with
  | nil => simp [cutAt]
  | cons x s =>
    unfold cutAt
    split
    · simp
    · cases cutAt c k s <;> simp [cons1]
theorem cutAt_none (c : UInt8) (k : List UInt8) (s : List UInt8) (h : c ∉ s) : cutAt c k s = [s] := by
  induction s with
  | nil => rfl
  | cons x s ih =>
    simp only [List.mem_cons, not_or] at h
    unfold cutAt
    rw [if_neg (fun e => h.1 e.symm), ih h.2]; rfl
theorem cutAt_first (c : UInt8) (k : List UInt8) (p r : List UInt8) (h : c ∉ p) : cutAt c k (p ++ c :: r) = (p ++ k) :: cutAt c k r := by
  induction p with
  | nil => simp [cutAt]
  | cons x p ih =>
    simp only [List.mem_cons, not_or] at h
    rw [List.cons_append, cutAt_cons, if_neg (fun e => h.1 e.symm), ih h.2]; rfl
theorem cutAt_length (c : UInt8) (k : List UInt8) (s : List UInt8) : (cutAt c k s).length = s.count c + 1 := by
  induction s with
  | nil => rfl
  | cons x s ih =>
    unfold cutAt
    by_cases e : x = c
    · rw [if_pos e]; subst e; simp [ih]
    · rw [if_neg e]
      have := cutAt_ne c k s
      cases hc : cutAt c k s with
      | nil => exact absurd hc this
      | cons p r => rw [hc] at ih; simp only [cons1, List.length_cons] at ih ⊢; rw [List.count_cons, if_neg (by simpa using e)]; omega
/-- one byte more -/
theorem cutAt_snoc (c : UInt8) (k : List UInt8) (x : UInt8) : ∀ (s : List UInt8) (d : List (List UInt8)) (q : List UInt8), cutAt c k s = d ++ [q] →
    cutAt c k (s ++ [x]) = if x = c then d ++ [q ++ k, []] else d ++ [q ++ [x]]
  | [], d, q, h => by
    have hd : d = [] ∧ q = [] := by
      cases d with
      | nil => simp [cutAt] at h; exact ⟨rfl, h⟩
      | cons a d => simp [cutAt] at h
    obtain ⟨rfl, rfl⟩ := hd
    by_cases e : x = c <;> simp [cutAt, e, cons1]
  | y :: s, d, q, h => by
    rw [List.cons_append]
    rw [cutAt_cons] at h ⊢
    by_cases e : y = c
    · rw [if_pos e] at h ⊢
      cases d with
      | nil => simp at h; exact absurd h.2 (cutAt_ne _ _ _)
      | cons a d =>
        simp only [List.cons_append, List.cons.injEq] at h
        rw [cutAt_snoc c k x s d q h.2, h.1]
        split <;> rfl
    · rw [if_neg e] at h ⊢
      cases hc : cutAt c k s with
      | nil => exact absurd hc (cutAt_ne _ _ _)
      | cons p r =>
        rw [hc] at h
        simp only [cons1] at h
        cases d with
        | nil =>
          simp only [List.nil_append, List.cons.injEq] at h
          obtain ⟨rfl, rfl⟩ := h
          rw [cutAt_snoc c k x s [] p (by rw [hc]; rfl)]
          split <;> simp [cons1]
        | cons a d =>
          simp only [List.cons_append, List.cons.injEq] at h
          obtain ⟨rfl, rfl⟩ := h
          rw [cutAt_snoc c k x s (p :: d) q (by rw [hc]; rfl)]
          split <;> simp [cons1]
theorem cutAt_last (c : UInt8) (k : List UInt8) (s : List UInt8) : ∃ d q, cutAt c k s = d ++ [q] :=
  ⟨(cutAt c k s).dropLast, (cutAt c k s).getLast (cutAt_ne c k s), (List.dropLast_concat_getLast (cutAt_ne c k s)).symm⟩

theorem index_none {c : UInt8} {l : List UInt8} (h : c ∉ l) : Lib.index l [c] = -1 := by
  induction l with
  | nil => rfl
  | cons b l ih =>
    simp only [List.mem_cons, not_or] at h
    unfold Lib.index
    rw [if_neg (by simp [List.isPrefixOf, h.1]), ih h.2]; rfl
theorem index_first {c : UInt8} (p r : List UInt8) (h : c ∉ p) : Lib.index (p ++ c :: r) [c] = p.length := by
  induction p with
  | nil => simp [Lib.index, List.isPrefixOf]
  | cons b p ih =>
    simp only [List.mem_cons, not_or] at h
    rw [List.cons_append]
    unfold Lib.index
    rw [if_neg (by simp [List.isPrefixOf, h.1]), ih h.2, if_neg (by simp)]
    simp
theorem first_c {c : UInt8} : ∀ (l : List UInt8), c ∈ l → ∃ p r, l = p ++ c :: r ∧ c ∉ p
  | x :: l, h => by
    by_cases e : c = x
    · subst e; exact ⟨[], l, rfl, by simp⟩
    · obtain ⟨p, r, h1, h2⟩ := first_c l (by simpa [e] using h)
      exact ⟨x :: p, r, by rw [h1]; rfl, by simp [e, h2]⟩

theorem ext_list (l : List UInt8) (a b : Nat) : (ByteArray.mk l.toArray).extract a b = ⟨((l.drop a).take (b - a)).toArray⟩ := by
  apply ByteArray.ext; simp [List.extract]

/-- what the library's cutting gives -/
theorem splitB_cut (c : UInt8) (sv : Nat) (hsv : sv ≤ 1) : ∀ (n : Nat) (s : List UInt8), s.count c ≤ n →
    (Lib.splitB ⟨#[c]⟩ sv n ⟨s.toArray⟩).map (·.data.toList) = cutAt c (if sv = 1 then [c] else []) s := by
  intro n
  induction n with
  | zero =>
    intro s h
    rw [cutAt_none _ _ _ (List.count_eq_zero.1 (by omega))]
    simp [Lib.splitB]
  | succ n ih =>
    intro s h
    unfold Lib.splitB
    have hi : Lib.indexB ⟨s.toArray⟩ ⟨#[c]⟩ = Lib.index s [c] := rfl
    rw [hi]
    by_cases hc : c ∈ s
    · obtain ⟨p, r, rfl, hp⟩ := first_c s hc
      rw [index_first p r hp, if_neg (by simp), cutAt_first _ _ _ _ hp]
      have hcnt : r.count c ≤ n := by
        rw [List.count_append, List.count_cons_self] at h; omega
      have hex : ByteArray.extract ⟨(p ++ c :: r).toArray⟩ (((p.length : Int)).toNat + ByteArray.size ⟨#[c]⟩) (ByteArray.size ⟨(p ++ c :: r).toArray⟩) = ⟨r.toArray⟩ := by
        rw [ext_list, show ((p.length : Int)).toNat = p.length by omega, show ByteArray.size ⟨#[c]⟩ = 1 from rfl, show ByteArray.size ⟨(p ++ c :: r).toArray⟩ = (p ++ c :: r).length by simp [ByteArray.size]]
        rw [show (p ++ c :: r).drop (p.length + 1) = r by rw [← List.drop_drop, List.drop_left' rfl]; rfl, List.take_of_length_le (by simp; omega)]
      have hex0 : (ByteArray.extract ⟨(p ++ c :: r).toArray⟩ 0 (((p.length : Int)).toNat + sv)).data.toList = p ++ (if sv = 1 then [c] else []) := by
        rw [ext_list, show ((p.length : Int)).toNat = p.length by omega]
        simp only [List.drop_zero, Nat.sub_zero]
        match sv, hsv with
        | 0, _ => simp
        | 1, _ => simp [List.take_append, List.take_of_length_le]
      rw [List.map_cons, hex, ih r hcnt, hex0]
    · rw [index_none hc, if_pos (by decide), cutAt_none _ _ _ hc]
      simp
/-- without an empty last one -/
def trimLast : List (List UInt8) → List (List UInt8)
  | [] => []
  | [q] => if q = [] then [] else [q]
  | x :: y :: r => x :: trimLast (y :: r)
theorem trimLast_snoc (d : List (List UInt8)) (q : List UInt8) : trimLast (d ++ [q]) = d ++ if q = [] then [] else [q] := by
  induction d with
  | nil => rfl
  | cons x d ih =>
    cases d with
    | nil => rfl
    | cons y d => rw [List.cons_append, List.cons_append, trimLast]; rw [List.cons_append] at ih; rw [ih]; rfl
/-- a text's lines, with their ends -/
def linesL (s : List UInt8) : List (List UInt8) := trimLast (cutAt 10 [10] s)
theorem linesL_length (s : List UInt8) : (linesL s).length ≤ s.length + 1 := by
  obtain ⟨d, q, h⟩ := cutAt_last 10 [10] s
  have h2 := cutAt_length 10 [10] s
  have h3 : s.count 10 ≤ s.length := List.count_le_length
  unfold linesL
  rw [h, List.length_append] at h2
  rw [h, trimLast_snoc, List.length_append]
  split <;> simp at h2 ⊢ <;> omega
end Go.Proofs.YtgppfcaghjbjmaaDoor.Plain
