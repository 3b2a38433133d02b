/- Plain laws of records: no program in sight. -/
import Derived.Test.YtjihemiofnhleaaPlain04
namespace Go.Proofs.Ytjihemiofnhleaa.Plain

def four (n : Nat) : List UInt8 := [UInt8.ofNat (n / 16777216), UInt8.ofNat (n / 65536 % 256), UInt8.ofNat (n / 256 % 256), UInt8.ofNat (n % 256)]
def num : List UInt8 → Nat
  | a :: b :: c :: d :: _ => a.toNat * 16777216 + b.toNat * 65536 + c.toNat * 256 + d.toNat
  | _ => 0

theorem num_lt (s : List UInt8) : num s < 4294967296 := by
  unfold num
  split
  · rename_i a b c d r
    have := a.toNat_lt; have := b.toNat_lt; have := c.toNat_lt; have := d.toNat_lt
    omega
  · omega
theorem four_length (n : Nat) : (four n).length = 4 := rfl
theorem num_four (n : Nat) (h : n < 4294967296) (r : List UInt8) : num (four n ++ r) = n := by
  simp only [four, num, List.cons_append, List.nil_append, UInt8.toNat_ofNat']
  omega

theorem or_add (a b c d : Nat) (_ha : a < 256) (hb : b < 256) (hc : c < 256) (hd : d < 256) :
    (((a * 16777216) ||| (b * 65536)) ||| (c * 256)) ||| d = a * 16777216 + b * 65536 + c * 256 + d := by
  have e1 : a * 16777216 ||| b * 65536 = a * 16777216 + b * 65536 := by
    have := Nat.two_pow_add_eq_or_of_lt (i := 24) (b := b * 65536) (by omega) a
    rw [show (2 : Nat) ^ 24 * a = a * 16777216 by omega] at this
    exact this.symm
  rw [e1]
  have e2 : (a * 16777216 + b * 65536) ||| c * 256 = a * 16777216 + b * 65536 + c * 256 := by
    have := Nat.two_pow_add_eq_or_of_lt (i := 16) (b := c * 256) (by omega) (a * 256 + b)
    rw [show (2 : Nat) ^ 16 * (a * 256 + b) = a * 16777216 + b * 65536 by omega] at this
    exact this.symm
  rw [e2]
  have := Nat.two_pow_add_eq_or_of_lt (i := 8) (b := d) (by omega) (a * 65536 + b * 256 + c)
  rw [show (2 : Nat) ^ 8 * (a * 65536 + b * 256 + c) = a * 16777216 + b * 65536 + c * 256 by omega] at this
  exact this.symm

/-- the program's number of four bytes -/
theorem num_go (a b c d : Nat) (ha : a < 256) (hb : b < 256) (hc : c < 256) (hd : d < 256) :
    Go.bits .or .u32 (Go.bits .or .u32 (Go.bits .or .u32 ((a : Int) * 16777216) ((b : Int) * 65536)) ((c : Int) * 256)) (d : Int) = ((a * 16777216 + b * 65536 + c * 256 + d : Nat) : Int) := by
  have h1 : a * 16777216 ||| b * 65536 < 4294967296 := by have := Nat.or_lt_two_pow (n := 32) (x := a * 16777216) (y := b * 65536) (by omega) (by omega); omega
  have h2 : (a * 16777216 ||| b * 65536) ||| c * 256 < 4294967296 := by have := Nat.or_lt_two_pow (n := 32) (y := c * 256) (show a * 16777216 ||| b * 65536 < 2 ^ 32 by omega) (by omega); omega
  rw [show ((a : Int) * 16777216) = ((a * 16777216 : Nat) : Int) by omega, show ((b : Int) * 65536) = ((b * 65536 : Nat) : Int) by omega, show ((c : Int) * 256) = ((c * 256 : Nat) : Int) by omega,
    u32_or_nat _ _ (by omega) (by omega), u32_or_nat _ _ h1 (by omega), u32_or_nat _ _ h2 (by omega), or_add a b c d ha hb hc hd]

theorem four_cases {s : List UInt8} (h : 4 ≤ s.length) : ∃ a b c d r, s = a :: b :: c :: d :: r := by
  match s, h with
  | a :: b :: c :: d :: r, _ => exact ⟨a, b, c, d, r, rfl⟩

def maxRec : Nat := 1048576
/-- a payload's record -/
def record (p : List UInt8) : List UInt8 := four p.length ++ (four (crc (four p.length ++ p)) ++ p)
def pack (p : List UInt8) : List UInt8 × Nat := if p.length ≤ maxRec then (record p, 0) else ([], 32)
theorem pack_ok {p : List UInt8} (h : p.length ≤ 1048576) : pack p = (record p, 0) := if_pos h
theorem pack_more {p : List UInt8} (h : 1048576 < p.length) : pack p = ([], 32) := if_neg (by unfold maxRec; omega)
/-- the record with which a text begins: the payload, what is behind, the error -/
def next (s : List UInt8) : List UInt8 × List UInt8 × Nat :=
  if s.length < 8 then ([], [], 50)
  else if maxRec < num s then ([], [], 32)
  else if s.length < 8 + num s then ([], [], 50)
  else if num (s.drop 4) ≠ crc (s.take 4 ++ (s.drop 8).take (num s)) then ([], [], 51)
  else ((s.drop 8).take (num s), s.drop (8 + num s), 0)

theorem next_short {s : List UInt8} (h : s.length < 8) : next s = ([], [], 50) := by unfold next; rw [if_pos h]
theorem next_more {s : List UInt8} (h : 8 ≤ s.length) (h1 : 1048576 < num s) : next s = ([], [], 32) := by unfold next maxRec; rw [if_neg (by omega), if_pos h1]
theorem next_cut {s : List UInt8} (h : 8 ≤ s.length) (h1 : num s ≤ 1048576) (h2 : s.length < 8 + num s) : next s = ([], [], 50) := by unfold next maxRec; rw [if_neg (by omega), if_neg (by omega), if_pos h2]
theorem next_sum {s : List UInt8} (h : 8 ≤ s.length) (h1 : num s ≤ 1048576) (h2 : 8 + num s ≤ s.length) (h3 : num (s.drop 4) ≠ crc (s.take 4 ++ (s.drop 8).take (num s))) : next s = ([], [], 51) := by
  unfold next maxRec; rw [if_neg (by omega), if_neg (by omega), if_neg (by omega), if_pos h3]
theorem next_ok {s : List UInt8} (h : 8 ≤ s.length) (h1 : num s ≤ 1048576) (h2 : 8 + num s ≤ s.length) (h3 : num (s.drop 4) = crc (s.take 4 ++ (s.drop 8).take (num s))) :
    next s = ((s.drop 8).take (num s), s.drop (8 + num s), 0) := by
  unfold next maxRec; rw [if_neg (by omega), if_neg (by omega), if_neg (by omega), if_neg (by simpa using h3)]

/-- just one record -/
def one (s : List UInt8) : List UInt8 × Nat := if (next s).2.1 ≠ [] then ([], 32) else ((next s).1, (next s).2.2)
theorem one_more {s : List UInt8} (h : (!(next s).2.1.isEmpty) = true) : one s = ([], 32) := by unfold one; rw [if_pos (by simpa using h)]
theorem one_ok {s : List UInt8} (h : (!(next s).2.1.isEmpty) = false) : one s = ((next s).1, (next s).2.2) := by unfold one; rw [if_neg (by simpa using h)]
/-- what is left of a text is shorter -/
theorem next_rest (s : List UInt8) (h : (next s).2.2 = 0) : (next s).2.1.length < s.length ∧ (next s).2.1.length + (next s).1.length + 8 = s.length ∧ (next s).1.length ≤ 1048576 := by
  unfold next at *
  split at h
  · cases h
  split at h
  · cases h
  split at h
  · cases h
  split at h
  · cases h
  · rename_i h1 h2 h3 h4
    rw [if_neg h1, if_neg h2, if_neg h3, if_neg h4]
    unfold maxRec at h2
    simp; omega
theorem next_err (s : List UInt8) (h : (next s).2.2 ≠ 0) : (next s).1 = [] ∧ (next s).2.1 = [] := by
  unfold next at *
  split at h
  · rename_i h1; rw [if_pos h1]; exact ⟨rfl, rfl⟩
  split at h
  · rename_i h1 h2; rw [if_neg h1, if_pos h2]; exact ⟨rfl, rfl⟩
  split at h
  · rename_i h1 h2 h3; rw [if_neg h1, if_neg h2, if_pos h3]; exact ⟨rfl, rfl⟩
  split at h
  · rename_i h1 h2 h3 h4; rw [if_neg h1, if_neg h2, if_neg h3, if_pos h4]; exact ⟨rfl, rfl⟩
  · exact absurd rfl h
theorem next_suffix (s : List UInt8) (h : (next s).2.2 = 0) : (next s).2.1 = s.drop (s.length - (next s).2.1.length) := by
  have hr := next_rest s h
  unfold next at *
  split at h
  · cases h
  split at h
  · cases h
  split at h
  · cases h
  split at h
  · cases h
  · rename_i h1 h2 h3 h4
    rw [if_neg h1, if_neg h2, if_neg h3, if_neg h4] at *
    simp only [List.length_drop] at *
    congr 1
    omega
theorem next_codes (s : List UInt8) : (next s).2.2 = 0 ∨ (next s).2.2 = 32 ∨ (next s).2.2 = 50 ∨ (next s).2.2 = 51 := by
  unfold next
  split
  · simp
  split
  · simp
  split
  · simp
  split <;> simp

/-- all records of a text, from its rest on: n rounds at the most -/
def allN : Nat → List UInt8 → List (List UInt8) × List UInt8 × Nat
  | 0, s => ([], s, 0)
  | n + 1, s => if s = [] then ([], [], 0) else if (next s).2.2 ≠ 0 then ([], s, (next s).2.2) else
      ((next s).1 :: (allN n (next s).2.1).1, (allN n (next s).2.1).2)
/-- the payloads, what is left, the error -/
def all (s : List UInt8) : List (List UInt8) × List UInt8 × Nat := allN s.length s

theorem allN_nil (n : Nat) : allN n [] = ([], [], 0) := by cases n <;> simp [allN]
theorem allN_ge : ∀ (n : Nat) (s : List UInt8), s.length ≤ n → ∀ m, n ≤ m → allN m s = allN n s := by
  intro n
  induction n with
  | zero => intro s h m _; rw [List.eq_nil_of_length_eq_zero (by omega : s.length = 0), allN_nil, allN_nil]
  | succ n ih =>
    intro s h m hm
    obtain ⟨m, rfl⟩ : ∃ k, m = k + 1 := ⟨m - 1, by omega⟩
    by_cases hs : s = []
    · subst hs; rw [allN_nil, allN_nil]
    simp only [allN, if_neg hs]
    by_cases he : (next s).2.2 = 0
    · have := (next_rest _ he).1
      rw [if_neg (by simpa using he), if_neg (by simpa using he), ih _ (by omega) m (by omega)]
    · rw [if_pos he, if_pos he]
theorem all_nil : all [] = ([], [], 0) := allN_nil _
theorem all_err {s : List UInt8} (hs : s ≠ []) (h : (next s).2.2 ≠ 0) : all s = ([], s, (next s).2.2) := by
  unfold all
  obtain ⟨k, hk⟩ : ∃ k, s.length = k + 1 := ⟨s.length - 1, by have := List.length_pos_iff.2 hs; omega⟩
  rw [hk, allN, if_neg hs, if_pos h]
theorem all_more {s : List UInt8} (hs : s ≠ []) (h : (next s).2.2 = 0) : all s = ((next s).1 :: (all (next s).2.1).1, (all (next s).2.1).2) := by
  unfold all
  obtain ⟨k, hk⟩ : ∃ k, s.length = k + 1 := ⟨s.length - 1, by have := List.length_pos_iff.2 hs; omega⟩
  have := (next_rest _ h).1
  rw [hk, allN, if_neg hs, if_neg (by simpa using h), allN_ge _ _ (Nat.le_refl _) k (by omega)]

/-- records one behind the other -/
def join (l : List (List UInt8)) : List UInt8 × Nat := if l.all (fun p => decide (p.length ≤ 1048576)) then (l.flatMap record, 0) else ([], 32)
theorem join_ok {l : List (List UInt8)} (h : ∀ p ∈ l, p.length ≤ 1048576) : join l = (l.flatMap record, 0) := if_pos (by simpa using h)
theorem join_bad {l : List (List UInt8)} {p : List UInt8} (hp : p ∈ l) (h : 1048576 < p.length) : join l = ([], 32) := if_neg (by simp; exact ⟨p, hp, h⟩)
theorem flatMap_take {l : List (List UInt8)} {k : Nat} (h : k < l.length) (f : List UInt8 → List UInt8) : (l.take (k + 1)).flatMap f = (l.take k).flatMap f ++ f l[k] := by
  rw [List.take_succ_eq_append_getElem h, List.flatMap_append]; simp

end Go.Proofs.Ytjihemiofnhleaa.Plain
