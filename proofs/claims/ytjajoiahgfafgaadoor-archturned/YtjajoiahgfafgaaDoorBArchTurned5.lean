/- Texts joined: Plain04, Plain05, Plain05b, PlainArch. -/
import Derived.Laws.BitsAllLaws
import Derived.Laws.BitsLemmas
import Derived.Test.YtjajoiahgfafgaaDoorBArchTurned1
import Derived.Test.YtjajoiahgfafgaaDoorBArchTurned4
import Derived.Test.YtjajoiahgfafgaaDoorBCodeBase2
set_option linter.unusedSimpArgs false
set_option linter.unusedVariables false

/- Plain laws of the check sum: no program in sight. -/
section
namespace Go.Proofs.YtjajoiahgfafgaaDoor.Plain

/-- One bit's step. -/
def bit1 (v : Nat) : Nat := if v % 2 = 1 then (v / 2) ^^^ 3988292384 else v / 2
def bits1 : Nat → Nat → Nat
  | 0, v => v
  | n + 1, v => bit1 (bits1 n v)
/-- One byte's step. -/
def crcB (v : Nat) (c : UInt8) : Nat := bits1 8 (v ^^^ c.toNat)
def crcRun (l : List UInt8) : Nat := l.foldl crcB 4294967295
def crc (l : List UInt8) : Nat := crcRun l ^^^ 4294967295

theorem xor_lt {a b : Nat} (ha : a < 4294967296) (hb : b < 4294967296) : a ^^^ b < 4294967296 := by
  have := Nat.xor_lt_two_pow (n := 32) (x := a) (y := b) (by omega) (by omega); omega

theorem bit1_lt {v : Nat} (h : v < 4294967296) : bit1 v < 4294967296 := by
  unfold bit1; split
  · exact xor_lt (by omega) (by omega)
  · omega
theorem bits1_lt {n v : Nat} (h : v < 4294967296) : bits1 n v < 4294967296 := by
  induction n with
  | zero => exact h
  | succ n ih => exact bit1_lt ih
theorem crcB_lt {v : Nat} (h : v < 4294967296) (c : UInt8) : crcB v c < 4294967296 := by
  have := c.toNat_lt
  exact bits1_lt (xor_lt h (by omega))
theorem foldl_crcB_lt (l : List UInt8) : ∀ {v : Nat}, v < 4294967296 → l.foldl crcB v < 4294967296 := by
  induction l with
  | nil => intro v h; exact h
  | cons c l ih => intro v h; exact ih (crcB_lt h c)
theorem crcRun_lt (l : List UInt8) : crcRun l < 4294967296 := foldl_crcB_lt l (by omega)
theorem crc_lt (l : List UInt8) : crc l < 4294967296 := xor_lt (crcRun_lt l) (by omega)

theorem xor_mod2 (a b : Nat) : (a ^^^ b) % 2 = (a % 2 + b % 2) % 2 := by
  have h := Nat.testBit_xor (x := a) (y := b) (i := 0)
  simp only [Nat.testBit_zero] at h
  rcases Nat.mod_two_eq_zero_or_one a with ha | ha <;> rcases Nat.mod_two_eq_zero_or_one b with hb | hb <;> rcases Nat.mod_two_eq_zero_or_one (a ^^^ b) with hc | hc <;> rw [ha, hb, hc] at h <;> simp at h <;> omega
theorem xor_div2 (a b : Nat) : (a ^^^ b) / 2 = a / 2 ^^^ b / 2 := by
  apply Nat.eq_of_testBit_eq
  intro i
  simp [Nat.testBit_xor, Nat.testBit_div_two]

theorem bit1_xor (a b : Nat) : bit1 (a ^^^ b) = bit1 a ^^^ bit1 b := by
  unfold bit1
  have h2 := xor_mod2 a b
  rw [xor_div2]
  rcases Nat.mod_two_eq_zero_or_one a with ha | ha <;> rcases Nat.mod_two_eq_zero_or_one b with hb | hb
  · rw [if_neg (by omega), if_neg (by omega), if_neg (by omega)]
  · rw [if_pos (by omega), if_neg (by omega), if_pos (by omega), Nat.xor_assoc]
  · rw [if_pos (by omega), if_pos (by omega), if_neg (by omega), Nat.xor_assoc, Nat.xor_comm (b / 2), Nat.xor_assoc]
  · rw [if_neg (by omega), if_pos (by omega), if_pos (by omega)]
    rw [Nat.xor_assoc, ← Nat.xor_assoc 3988292384, Nat.xor_comm 3988292384 (b / 2), Nat.xor_assoc (b / 2), Nat.xor_self, Nat.xor_zero]
theorem bits1_xor (n a b : Nat) : bits1 n (a ^^^ b) = bits1 n a ^^^ bits1 n b := by
  induction n with
  | zero => rfl
  | succ n ih => simp only [bits1, ih, bit1_xor]
theorem bit1_even (k : Nat) : bit1 (2 * k) = k := by
  unfold bit1; rw [if_neg (by omega)]; omega
theorem bits1_add (n m v : Nat) : bits1 (n + m) v = bits1 n (bits1 m v) := by
  induction n with
  | zero => simp [bits1]
  | succ n ih => rw [Nat.succ_add]; simp only [bits1, ih]
theorem bits1_4_16 (k : Nat) : bits1 4 (16 * k) = k := by
  simp only [bits1]
  rw [show 16 * k = 2 * (8 * k) by omega, bit1_even, show 8 * k = 2 * (4 * k) by omega, bit1_even, show 4 * k = 2 * (2 * k) by omega, bit1_even, bit1_even]
theorem split16 (v : Nat) : v = 16 * (v / 16) ^^^ v % 16 := by
  have h : 16 * (v / 16) ^^^ v % 16 = 16 * (v / 16) + v % 16 := by
    have h1 := Nat.two_pow_add_eq_or_of_lt (i := 4) (b := v % 16) (by omega) (v / 16)
    have h2 : 16 * (v / 16) ||| v % 16 = 16 * (v / 16) ^^^ v % 16 := by
      apply Nat.eq_of_testBit_eq
      intro i
      have e : 16 * (v / 16) = 2 ^ 4 * (v / 16) := by omega
      rw [Nat.testBit_or, Nat.testBit_xor, e, Nat.testBit_two_pow_mul]
      by_cases hi : 4 ≤ i
      · have : (v % 16).testBit i = false := by
          rw [show v % 16 = v % 2 ^ 4 by omega, Nat.testBit_mod_two_pow]; simp; omega
        simp [this]
      · simp [hi]
    rw [show (2 : Nat) ^ 4 = 16 by rfl] at h1
    omega
  omega
/-- four bits by the table -/
def nib (v : Nat) : Nat := v / 16 ^^^ bits1 4 (v % 16)
theorem nib_eq (v : Nat) : nib v = bits1 4 v := by
  conv => rhs; rw [split16 v, bits1_xor, bits1_4_16]
  rfl
theorem crcB_nib (v : Nat) (c : UInt8) : crcB v c = nib (nib (v ^^^ c.toNat)) := by
  rw [nib_eq, nib_eq, ← bits1_add]; rfl
theorem nib_lt {v : Nat} (h : v < 4294967296) : nib v < 4294967296 := by rw [nib_eq]; exact bits1_lt h

/-- the program's step of one bit -/
theorem bit1_go (x : Nat) (hx : x < 4294967296) :
    Go.bits .xor .u32 ((x : Int) / 2) (Go.bits .and .u32 3988292384 (-(Go.bits .and .u32 (x : Int) 1) % 4294967296)) = (bit1 x : Int) := by
  have h1 : Go.bits .and .u32 (x : Int) 1 = ((x % 2 : Nat) : Int) := by
    rw [show (1 : Int) = ((1 : Nat) : Int) by rfl, u32_and_nat x 1 hx (by omega), Nat.and_one_is_mod]
  rw [h1]
  unfold bit1
  rcases Nat.mod_two_eq_zero_or_one x with h | h
  · rw [h, if_neg (by omega)]
    rw [show (-((0 : Nat) : Int)) % 4294967296 = ((0 : Nat) : Int) by rfl, show (3988292384 : Int) = ((3988292384 : Nat) : Int) by rfl, u32_and_nat _ _ (by omega) (by omega), Nat.and_zero,
      show ((x : Int) / 2) = ((x / 2 : Nat) : Int) by omega, u32_xor_nat _ _ (by omega) (by omega), Nat.xor_zero]
  · rw [h, if_pos rfl]
    rw [show (-((1 : Nat) : Int)) % 4294967296 = ((4294967295 : Nat) : Int) by rfl, show (3988292384 : Int) = ((3988292384 : Nat) : Int) by rfl, u32_and_nat _ _ (by omega) (by omega),
      show (3988292384 &&& 4294967295 : Nat) = 3988292384 by rfl,
      show ((x : Int) / 2) = ((x / 2 : Nat) : Int) by omega, u32_xor_nat _ _ (by omega) (by omega)]

/-- what the program's round does: all intermediate numbers by name -/
theorem nib_go (v : Nat) (c : Nat) (hv : v < 4294967296) (hc : c < 256) : ∃ x1 m1 x2 m2 x3 : Nat, x1 < 4294967296 ∧ m1 < 16 ∧ x2 < 4294967296 ∧ m2 < 16 ∧
    Go.bits .xor .u32 (v : Int) (c : Int) = (x1 : Int) ∧ Go.bits .and .u32 (x1 : Int) 15 = (m1 : Int) ∧ Go.bits .xor .u32 ((x1 : Int) / 16) (bits1 4 m1 : Int) = (x2 : Int) ∧
    Go.bits .and .u32 (x2 : Int) 15 = (m2 : Int) ∧ Go.bits .xor .u32 ((x2 : Int) / 16) (bits1 4 m2 : Int) = (x3 : Int) ∧ x3 = nib (nib (v ^^^ c)) := by
  have h1 := xor_lt hv (show c < 4294967296 by omega)
  have h2 := nib_lt h1
  have hand : ∀ x : Nat, x < 4294967296 → Go.bits .and .u32 (x : Int) 15 = ((x % 16 : Nat) : Int) := fun x hx => by
    rw [show (15 : Int) = ((15 : Nat) : Int) by rfl, u32_and_nat _ _ hx (by omega)]
    have := Nat.and_two_pow_sub_one_eq_mod x 4
    simp at this
    rw [this]
  have hnib : ∀ x : Nat, x < 4294967296 → Go.bits .xor .u32 ((x : Int) / 16) (bits1 4 (x % 16) : Int) = (nib x : Int) := fun x hx => by
    rw [show ((x : Int) / 16) = ((x / 16 : Nat) : Int) by omega, u32_xor_nat _ _ (by omega) (bits1_lt (by omega))]
    rfl
  exact ⟨v ^^^ c, (v ^^^ c) % 16, nib (v ^^^ c), nib (v ^^^ c) % 16, _, h1, by omega, h2, by omega, u32_xor_nat _ _ hv (by omega), hand _ h1, hnib _ h1, hand _ h2, hnib _ h2, rfl⟩

theorem xor_ones (x : Nat) (hx : x < 4294967296) : x ^^^ 4294967295 = 4294967295 - x := by
  have h := congrArg BitVec.toNat (BitVec.xor_allOnes (x := BitVec.ofNat 32 x))
  rw [BitVec.toNat_xor, BitVec.toNat_not] at h
  simp [Nat.mod_eq_of_lt (show x < 2 ^ 32 by omega)] at h
  exact h
theorem bit1_ref1 (x : Nat) (hx : x < 4294967296) (h : x % 2 = 1) : Go.bits .xor .u32 ((x : Int) / 2) 3988292384 = (bit1 x : Int) := by
  unfold bit1
  rw [if_pos h, show ((x : Int) / 2) = ((x / 2 : Nat) : Int) by omega, show (3988292384 : Int) = ((3988292384 : Nat) : Int) by rfl, u32_xor_nat _ _ (by omega) (by omega)]
theorem bit1_ref0 (x : Nat) (h : x % 2 = 0) : ((x : Int) / 2) = (bit1 x : Int) := by
  unfold bit1
  rw [if_neg (by omega)]; omega
theorem not_go (x : Nat) (hx : x < 4294967296) : Go.bits .xor .u32 IntKind.u32.max (x : Int) = ((x ^^^ 4294967295 : Nat) : Int) := by
  rw [show IntKind.u32.max = ((4294967295 : Nat) : Int) by rfl, u32_xor_nat _ _ (by omega) hx, Nat.xor_comm]
end Go.Proofs.YtjajoiahgfafgaaDoor.Plain
end

/- Plain laws of records: no program in sight. -/
section
namespace Go.Proofs.YtjajoiahgfafgaaDoor.Plain

def four (n : Nat) : List UInt8 := [UInt8.ofNat (n / 16777216), UInt8.ofNat (n / 65536 % 256), UInt8.ofNat (n / 256 % 256), UInt8.ofNat (n % 256)]
def num : List UInt8 → Nat
  | a :: b :: c :: d :: _ => a.toNat * 16777216 + b.toNat * 65536 + c.toNat * 256 + d.toNat
  | _ => 0

theorem num_lt (s : List UInt8) : num s < 4294967296 := by
  unfold num
  split
  · rename_i a b c d r
    have := a.toNat_lt; have := b.toNat_lt; have := c.toNat_lt; have := d.toNat_lt
    omega
  · omega
theorem four_length (n : Nat) : (four n).length = 4 := rfl
theorem num_four (n : Nat) (h : n < 4294967296) (r : List UInt8) : num (four n ++ r) = n := by
  simp only [four, num, List.cons_append, List.nil_append, UInt8.toNat_ofNat']
  omega

theorem or_add (a b c d : Nat) (_ha : a < 256) (hb : b < 256) (hc : c < 256) (hd : d < 256) :
    (((a * 16777216) ||| (b * 65536)) ||| (c * 256)) ||| d = a * 16777216 + b * 65536 + c * 256 + d := by
  have e1 : a * 16777216 ||| b * 65536 = a * 16777216 + b * 65536 := by
    have := Nat.two_pow_add_eq_or_of_lt (i := 24) (b := b * 65536) (by omega) a
    rw [show (2 : Nat) ^ 24 * a = a * 16777216 by omega] at this
    exact this.symm
  rw [e1]
  have e2 : (a * 16777216 + b * 65536) ||| c * 256 = a * 16777216 + b * 65536 + c * 256 := by
    have := Nat.two_pow_add_eq_or_of_lt (i := 16) (b := c * 256) (by omega) (a * 256 + b)
    rw [show (2 : Nat) ^ 16 * (a * 256 + b) = a * 16777216 + b * 65536 by omega] at this
    exact this.symm
  rw [e2]
  have := Nat.two_pow_add_eq_or_of_lt (i := 8) (b := d) (by omega) (a * 65536 + b * 256 + c)
  rw [show (2 : Nat) ^ 8 * (a * 65536 + b * 256 + c) = a * 16777216 + b * 65536 + c * 256 by omega] at this
  exact this.symm

/-- the program's number of four bytes -/
theorem num_go (a b c d : Nat) (ha : a < 256) (hb : b < 256) (hc : c < 256) (hd : d < 256) :
    Go.bits .or .u32 (Go.bits .or .u32 (Go.bits .or .u32 ((a : Int) * 16777216) ((b : Int) * 65536)) ((c : Int) * 256)) (d : Int) = ((a * 16777216 + b * 65536 + c * 256 + d : Nat) : Int) := by
  have h1 : a * 16777216 ||| b * 65536 < 4294967296 := by have := Nat.or_lt_two_pow (n := 32) (x := a * 16777216) (y := b * 65536) (by omega) (by omega); omega
  have h2 : (a * 16777216 ||| b * 65536) ||| c * 256 < 4294967296 := by have := Nat.or_lt_two_pow (n := 32) (y := c * 256) (show a * 16777216 ||| b * 65536 < 2 ^ 32 by omega) (by omega); omega
  rw [show ((a : Int) * 16777216) = ((a * 16777216 : Nat) : Int) by omega, show ((b : Int) * 65536) = ((b * 65536 : Nat) : Int) by omega, show ((c : Int) * 256) = ((c * 256 : Nat) : Int) by omega,
    u32_or_nat _ _ (by omega) (by omega), u32_or_nat _ _ h1 (by omega), u32_or_nat _ _ h2 (by omega), or_add a b c d ha hb hc hd]

theorem four_cases {s : List UInt8} (h : 4 ≤ s.length) : ∃ a b c d r, s = a :: b :: c :: d :: r := by
  match s, h with
  | a :: b :: c :: d :: r, _ => exact ⟨a, b, c, d, r, rfl⟩

def maxRec : Nat := 1048576
/-- a payload's record -/
def record (p : List UInt8) : List UInt8 := four p.length ++ (four (crc (four p.length ++ p)) ++ p)
def pack (p : List UInt8) : List UInt8 × Nat := if p.length ≤ maxRec then (record p, 0) else ([], 32)
theorem pack_ok {p : List UInt8} (h : p.length ≤ 1048576) : pack p = (record p, 0) := if_pos h
theorem pack_more {p : List UInt8} (h : 1048576 < p.length) : pack p = ([], 32) := if_neg (by unfold maxRec; omega)
/-- the record with which a text begins: the payload, what is behind, the error -/
def next (s : List UInt8) : List UInt8 × List UInt8 × Nat :=
  if s.length < 8 then ([], [], 50)
  else if maxRec < num s then ([], [], 32)
  else if s.length < 8 + num s then ([], [], 50)
  else if num (s.drop 4) ≠ crc (s.take 4 ++ (s.drop 8).take (num s)) then ([], [], 51)
  else ((s.drop 8).take (num s), s.drop (8 + num s), 0)

theorem next_short {s : List UInt8} (h : s.length < 8) : next s = ([], [], 50) := by unfold next; rw [if_pos h]
theorem next_more {s : List UInt8} (h : 8 ≤ s.length) (h1 : 1048576 < num s) : next s = ([], [], 32) := by unfold next maxRec; rw [if_neg (by omega), if_pos h1]
theorem next_cut {s : List UInt8} (h : 8 ≤ s.length) (h1 : num s ≤ 1048576) (h2 : s.length < 8 + num s) : next s = ([], [], 50) := by unfold next maxRec; rw [if_neg (by omega), if_neg (by omega), if_pos h2]
theorem next_sum {s : List UInt8} (h : 8 ≤ s.length) (h1 : num s ≤ 1048576) (h2 : 8 + num s ≤ s.length) (h3 : num (s.drop 4) ≠ crc (s.take 4 ++ (s.drop 8).take (num s))) : next s = ([], [], 51) := by
  unfold next maxRec; rw [if_neg (by omega), if_neg (by omega), if_neg (by omega), if_pos h3]
theorem next_ok {s : List UInt8} (h : 8 ≤ s.length) (h1 : num s ≤ 1048576) (h2 : 8 + num s ≤ s.length) (h3 : num (s.drop 4) = crc (s.take 4 ++ (s.drop 8).take (num s))) :
    next s = ((s.drop 8).take (num s), s.drop (8 + num s), 0) := by
  unfold next maxRec; rw [if_neg (by omega), if_neg (by omega), if_neg (by omega), if_neg (by simpa using h3)]

/-- just one record -/
def one (s : List UInt8) : List UInt8 × Nat := if (next s).2.1 ≠ [] then ([], 32) else ((next s).1, (next s).2.2)
theorem one_more {s : List UInt8} (h : (!(next s).2.1.isEmpty) = true) : one s = ([], 32) := by unfold one; rw [if_pos (by simpa using h)]
theorem one_ok {s : List UInt8} (h : (!(next s).2.1.isEmpty) = false) : one s = ((next s).1, (next s).2.2) := by unfold one; rw [if_neg (by simpa using h)]
/-- what is left of a text is shorter -/
theorem next_rest (s : List UInt8) (h : (next s).2.2 = 0) : (next s).2.1.length < s.length ∧ (next s).2.1.length + (next s).1.length + 8 = s.length ∧ (next s).1.length ≤ 1048576 := by
  unfold next at *
  split at h
  · cases h
  split at h
  · cases h
  split at h
  · cases h
  split at h
  · cases h
  · rename_i h1 h2 h3 h4
    rw [if_neg h1, if_neg h2, if_neg h3, if_neg h4]
    unfold maxRec at h2
    simp; omega
theorem next_err (s : List UInt8) (h : (next s).2.2 ≠ 0) : (next s).1 = [] ∧ (next s).2.1 = [] := by
  unfold next at *
  split at h
  · rename_i h1; rw [if_pos h1]; exact ⟨rfl, rfl⟩
  split at h
  · rename_i h1 h2; rw [if_neg h1, if_pos h2]; exact ⟨rfl, rfl⟩
  split at h
  · rename_i h1 h2 h3; rw [if_neg h1, if_neg h2, if_pos h3]; exact ⟨rfl, rfl⟩
  split at h
  · rename_i h1 h2 h3 h4; rw [if_neg h1, if_neg h2, if_neg h3, if_pos h4]; exact ⟨rfl, rfl⟩
  · exact absurd rfl h
theorem next_suffix (s : List UInt8) (h : (next s).2.2 = 0) : (next s).2.1 = s.drop (s.length - (next s).2.1.length) := by
  have hr := next_rest s h
  unfold next at *
  split at h
  · cases h
  split at h
  · cases h
  split at h
  · cases h
  split at h
  · cases h
  · rename_i h1 h2 h3 h4
    rw [if_neg h1, if_neg h2, if_neg h3, if_neg h4] at *
    simp only [List.length_drop] at *
    congr 1
    omega
theorem next_codes (s : List UInt8) : (next s).2.2 = 0 ∨ (next s).2.2 = 32 ∨ (next s).2.2 = 50 ∨ (next s).2.2 = 51 := by
  unfold next
  split
  · simp
  split
  · simp
  split
  · simp
  split <;> simp

/-- all records of a text, from its rest on: n rounds at the most -/
def allN : Nat → List UInt8 → List (List UInt8) × List UInt8 × Nat
  | 0, s => ([], s, 0)
  | n + 1, s => if s = [] then ([], [], 0) else if (next s).2.2 ≠ 0 then ([], s, (next s).2.2) else
      ((next s).1 :: (allN n (next s).2.1).1, (allN n (next s).2.1).2)
/-- the payloads, what is left, the error -/
def all (s : List UInt8) : List (List UInt8) × List UInt8 × Nat := allN s.length s

theorem allN_nil (n : Nat) : allN n [] = ([], [], 0) := by cases n <;> simp [allN]
theorem allN_ge : ∀ (n : Nat) (s : List UInt8), s.length ≤ n → ∀ m, n ≤ m → allN m s = allN n s := by
  intro n
  induction n with
  | zero => intro s h m _; rw [List.eq_nil_of_length_eq_zero (by omega : s.length = 0), allN_nil, allN_nil]
  | succ n ih =>
    intro s h m hm
    obtain ⟨m, rfl⟩ : ∃ k, m = k + 1 := ⟨m - 1, by omega⟩
    by_cases hs : s = []
    · subst hs; rw [allN_nil, allN_nil]
    simp only [allN, if_neg hs]
    by_cases he : (next s).2.2 = 0
    · have := (next_rest _ he).1
      rw [if_neg (by simpa using he), if_neg (by simpa using he), ih _ (by omega) m (by omega)]
    · rw [if_pos he, if_pos he]
theorem all_nil : all [] = ([], [], 0) := allN_nil _
theorem all_err {s : List UInt8} (hs : s ≠ []) (h : (next s).2.2 ≠ 0) : all s = ([], s, (next s).2.2) := by
  unfold all
  obtain ⟨k, hk⟩ : ∃ k, s.length = k + 1 := ⟨s.length - 1, by have := List.length_pos_iff.2 hs; omega⟩
  rw [hk, allN, if_neg hs, if_pos h]
theorem all_more {s : List UInt8} (hs : s ≠ []) (h : (next s).2.2 = 0) : all s = ((next s).1 :: (all (next s).2.1).1, (all (next s).2.1).2) := by
  unfold all
  obtain ⟨k, hk⟩ : ∃ k, s.length = k + 1 := ⟨s.length - 1, by have := List.length_pos_iff.2 hs; omega⟩
  have := (next_rest _ h).1
  rw [hk, allN, if_neg hs, if_neg (by simpa using h), allN_ge _ _ (Nat.le_refl _) k (by omega)]

/-- records one behind the other -/
def join (l : List (List UInt8)) : List UInt8 × Nat := if l.all (fun p => decide (p.length ≤ 1048576)) then (l.flatMap record, 0) else ([], 32)
theorem join_ok {l : List (List UInt8)} (h : ∀ p ∈ l, p.length ≤ 1048576) : join l = (l.flatMap record, 0) := if_pos (by simpa using h)
theorem join_bad {l : List (List UInt8)} {p : List UInt8} (hp : p ∈ l) (h : 1048576 < p.length) : join l = ([], 32) := if_neg (by simp; exact ⟨p, hp, h⟩)
theorem flatMap_take {l : List (List UInt8)} {k : Nat} (h : k < l.length) (f : List UInt8 → List UInt8) : (l.take (k + 1)).flatMap f = (l.take k).flatMap f ++ f l[k] := by
  rw [List.take_succ_eq_append_getElem h, List.flatMap_append]; simp

end Go.Proofs.YtjajoiahgfafgaaDoor.Plain
end

/- Plain laws of records, more: what is packed is read, what is turned is refused. -/
section
namespace Go.Proofs.YtjajoiahgfafgaaDoor.Plain

theorem four_num {s : List UInt8} (h : 4 ≤ s.length) : four (num s) = s.take 4 := by
  obtain ⟨a, b, c, d, r, rfl⟩ := four_cases h
  have := a.toNat_lt; have := b.toNat_lt; have := c.toNat_lt; have := d.toNat_lt
  simp only [num, four, List.take_succ_cons, List.take_zero]
  congr 1
  · apply UInt8.toNat.inj; simp; omega
  congr 1
  · apply UInt8.toNat.inj; simp; omega
  congr 1
  · apply UInt8.toNat.inj; simp; omega
  congr 1
  · apply UInt8.toNat.inj; simp; omega

theorem record_length (p : List UInt8) : (record p).length = 8 + p.length := by simp [record, four_length]; omega

theorem num_record (p r : List UInt8) (hp : p.length ≤ 1048576) : num (record p ++ r) = p.length := by
  unfold record; rw [List.append_assoc, num_four _ (by omega)]

theorem record_take4 (p r : List UInt8) : (record p ++ r).take 4 = four p.length := by
  unfold record; rw [List.append_assoc, List.take_append_of_le_length (by simp [four_length])]; exact List.take_of_length_le (by simp [four_length])
theorem record_drop4 (p r : List UInt8) : (record p ++ r).drop 4 = four (crc (four p.length ++ p)) ++ (p ++ r) := by
  unfold record
  rw [List.append_assoc, List.append_assoc, List.drop_left' (four_length _)]
theorem record_drop8 (p r : List UInt8) : (record p ++ r).drop 8 = p ++ r := by
  rw [show 8 = 4 + 4 by rfl, ← List.drop_drop, record_drop4, List.drop_left' (four_length _)]

theorem next_record (p r : List UInt8) (hp : p.length ≤ 1048576) : next (record p ++ r) = (p, r, 0) := by
  have hl : (record p ++ r).length = 8 + p.length + r.length := by rw [List.length_append, record_length]
  have hn := num_record p r hp
  rw [next_ok (by omega) (by omega) (by omega) ?_, hn]
  · rw [record_drop8, List.take_left' rfl, ← List.drop_drop, record_drop8, List.drop_left' rfl]
  · rw [hn, record_drop4, record_take4, record_drop8, List.take_left' rfl, num_four _ (crc_lt _)]

theorem one_record (p : List UInt8) (hp : p.length ≤ 1048576) : one (record p) = (p, 0) := by
  have h := next_record p [] hp
  rw [List.append_nil] at h
  unfold one; rw [h]; simp

/-- what Next takes is a record -/
theorem record_of_next (s : List UInt8) (h : (next s).2.2 = 0) : s = record (next s).1 ++ (next s).2.1 ∧ (next s).1.length ≤ 1048576 := by
  have hr := next_rest s h
  refine ⟨?_, hr.2.2⟩
  unfold next at h hr ⊢
  split at h
  · cases h
  split at h
  · cases h
  split at h
  · cases h
  split at h
  · cases h
  · rename_i h1 h2 h3 h4
    rw [if_neg h1, if_neg h2, if_neg h3, if_neg h4]
    simp only
    have h4' : num (s.drop 4) = crc (s.take 4 ++ (s.drop 8).take (num s)) := by simpa using h4
    have hl : ((s.drop 8).take (num s)).length = num s := by simp; omega
    have e4 := four_num (s := s) (by omega)
    have e8 := four_num (s := s.drop 4) (by simp; omega)
    unfold record
    rw [hl, e4, ← h4', e8]
    rw [List.append_assoc, List.append_assoc]
    have : (s.drop 8).take (num s) ++ s.drop (8 + num s) = s.drop 8 := by
      rw [← List.drop_drop, List.take_append_drop]
    rw [this, show s.drop 8 = (s.drop 4).drop 4 by rw [List.drop_drop], List.take_append_drop, List.take_append_drop]

/-- what is read of a text: its records, as many as there are -/
theorem all_facts : ∀ (n : Nat) (s : List UInt8), s.length ≤ n → 8 * (all s).1.length + (all s).2.1.length ≤ s.length ∧ s = (all s).1.flatMap record ++ (all s).2.1 ∧ (∀ p ∈ (all s).1, p.length ≤ 1048576) ∧ ((all s).2.2 = 0 ↔ (all s).2.1 = []) := by
  intro n
  induction n with
  | zero => intro s h; rw [List.eq_nil_of_length_eq_zero (by omega : s.length = 0), all_nil]; simp
  | succ n ih =>
    intro s h
    by_cases hs : s = []
    · subst hs; rw [all_nil]; simp
    by_cases he : (next s).2.2 = 0
    · have hr := next_rest s he
      have hrec := record_of_next s he
      obtain ⟨i1, i2, i3, i4⟩ := ih (next s).2.1 (by omega)
      rw [all_more hs he]
      refine ⟨by simp; omega, ?_, ?_, i4⟩
      · simp only [List.flatMap_cons, List.append_assoc]
        rw [← i2]; exact hrec.1
      · intro p hp
        rcases List.mem_cons.1 hp with rfl | hp
        · exact hrec.2
        · exact i3 p hp
    · rw [all_err hs he]
      exact ⟨by simp, by simp, by simp, by simp [he, hs]⟩
theorem all_length (s : List UInt8) : (all s).1.length ≤ s.length := by have := (all_facts _ s (Nat.le_refl _)).1; omega

/-! ### one byte turned -/
theorem bit1_zero {a : Nat} (ha : a < 4294967296) (h : bit1 a = 0) : a = 0 := by
  unfold bit1 at h
  split at h
  · rename_i h1
    have h2 := congrArg (· ^^^ 3988292384) h
    simp only [Nat.xor_assoc, Nat.xor_self, Nat.xor_zero, Nat.zero_xor] at h2
    omega
  · omega
theorem xor_eq_zero {a b : Nat} (h : a ^^^ b = 0) : a = b := by
  have h2 := congrArg (· ^^^ b) h
  simpa [Nat.xor_assoc] using h2
theorem bit1_inj {a b : Nat} (ha : a < 4294967296) (hb : b < 4294967296) (h : bit1 a = bit1 b) : a = b := by
  apply xor_eq_zero
  apply bit1_zero (xor_lt ha hb)
  rw [bit1_xor, h, Nat.xor_self]
theorem bits1_inj (n : Nat) {a b : Nat} (ha : a < 4294967296) (hb : b < 4294967296) (h : bits1 n a = bits1 n b) : a = b := by
  induction n with
  | zero => exact h
  | succ n ih => exact ih (bit1_inj (bits1_lt ha) (bits1_lt hb) h)
theorem xor_inj {a b c : Nat} (h : a ^^^ c = b ^^^ c) : a = b := by
  have h2 := congrArg (· ^^^ c) h
  simpa [Nat.xor_assoc] using h2
theorem crcB_inj {a b : Nat} {c : UInt8} (ha : a < 4294967296) (hb : b < 4294967296) (h : crcB a c = crcB b c) : a = b := by
  have := c.toNat_lt
  exact xor_inj (bits1_inj 8 (xor_lt ha (by omega)) (xor_lt hb (by omega)) h)
theorem crcB_ne {v : Nat} {c d : UInt8} (hv : v < 4294967296) (h : crcB v c = crcB v d) : c = d := by
  have := c.toNat_lt; have := d.toNat_lt
  have h2 := bits1_inj 8 (xor_lt hv (by omega)) (xor_lt hv (by omega)) h
  rw [Nat.xor_comm v, Nat.xor_comm v] at h2
  exact UInt8.toNat.inj (xor_inj h2)
theorem foldl_inj (l : List UInt8) : ∀ {a b : Nat}, a < 4294967296 → b < 4294967296 → l.foldl crcB a = l.foldl crcB b → a = b := by
  induction l with
  | nil => intro a b _ _ h; exact h
  | cons c l ih => intro a b ha hb h; exact crcB_inj ha hb (ih (crcB_lt ha c) (crcB_lt hb c) h)
/-- texts that differ in one byte have two check sums -/
theorem crc_turned (pre suf : List UInt8) {c d : UInt8} (h : c ≠ d) : crc (pre ++ c :: suf) ≠ crc (pre ++ d :: suf) := by
  intro he
  have h1 := xor_inj he
  unfold crcRun at h1
  rw [List.foldl_append, List.foldl_append, List.foldl_cons, List.foldl_cons] at h1
  have hv := foldl_crcB_lt pre (v := 4294967295) (by omega)
  exact h (crcB_ne hv (foldl_inj suf (crcB_lt hv c) (crcB_lt hv d) h1))

theorem num_inj {s t : List UInt8} (hs : 4 ≤ s.length) (ht : 4 ≤ t.length) (h : num s = num t) : s.take 4 = t.take 4 := by
  rw [← four_num hs, ← four_num ht, h]

/-- whatever is read of a record one byte of which is another one: it is refused -/
theorem one_turned (p : List UInt8) (hp : p.length ≤ 1048576) (pre suf : List UInt8) {c d : UInt8} (hne : c ≠ d) (h : record p = pre ++ c :: suf) :
    (one (pre ++ d :: suf)).1 = [] ∧ (one (pre ++ d :: suf)).2 ≠ 0 := by
  generalize ht : pre ++ d :: suf = t
  have hlen : t.length = 8 + p.length := by
    rw [← ht]; have := congrArg List.length h; rw [record_length] at this; simp at this ⊢; omega
  have hnext : ∀ x, next t = x → x.2.2 ≠ 0 → x.1 = [] → x.2.1 = [] → (one t).1 = [] ∧ (one t).2 ≠ 0 := by
    intro x hx h1 h2 h3
    unfold one; rw [hx, h3]; simp [h2, h1]
  have hr4 := record_take4 p []
  have hr8 := record_drop4 p []
  rw [List.append_nil] at hr4
  rw [List.append_nil, List.append_nil] at hr8
  by_cases h8 : 8 ≤ pre.length
  · -- in the payload
    have et4 : t.take 4 = four p.length := by
      rw [← hr4, h, ← ht, List.take_append_of_le_length (by omega), List.take_append_of_le_length (by omega)]
    have hn : num t = p.length := by
      have h0 := four_num (s := t) (by omega)
      rw [et4] at h0
      have := congrArg num h0
      have e1 := num_four (num t) (num_lt t) []
      have e2 := num_four p.length (by omega) []
      rw [List.append_nil] at e1 e2
      rw [e1, e2] at this
      exact this
    have esum : num (t.drop 4) = crc (four p.length ++ p) := by
      have e1 : (t.drop 4).take 4 = four (crc (four p.length ++ p)) := by
        have : ((record p).drop 4).take 4 = four (crc (four p.length ++ p)) := by
          rw [hr8, List.take_append_of_le_length (by simp [four_length])]; exact List.take_of_length_le (by simp [four_length])
        rw [← this, h, ← ht, List.drop_append_of_le_length (by omega), List.drop_append_of_le_length (by omega), List.take_append_of_le_length (by simp; omega), List.take_append_of_le_length (by simp; omega)]
      have h0 := four_num (s := t.drop 4) (by simp; omega)
      rw [e1] at h0
      have := congrArg num h0
      have e2 := num_four (num (t.drop 4)) (num_lt _) []
      have e3 := num_four (crc (four p.length ++ p)) (crc_lt _) []
      rw [List.append_nil] at e2 e3
      rw [e2, e3] at this
      exact this
    have epay : t.drop 8 = pre.drop 8 ++ d :: suf := by rw [← ht, List.drop_append_of_le_length h8]
    have epay0 : p = pre.drop 8 ++ c :: suf := by
      have := record_drop8 p []
      rw [List.append_nil, List.append_nil, h, List.drop_append_of_le_length h8] at this
      exact this.symm
    refine hnext _ (next_sum (by omega) (by omega) (by omega) ?_) (by simp) rfl rfl
    rw [esum, et4, hn, List.take_of_length_le (by simp; omega), epay]
    conv => lhs; rw [show four p.length ++ p = (four p.length ++ pre.drop 8) ++ c :: suf by rw [List.append_assoc, ← epay0]]
    rw [← List.append_assoc]
    exact crc_turned _ _ hne
  · by_cases h4 : 4 ≤ pre.length
    · -- in the sum
      have et4 : t.take 4 = four p.length := by
        rw [← hr4, h, ← ht, List.take_append_of_le_length (by omega), List.take_append_of_le_length (by omega)]
      have hn : num t = p.length := by
        have h0 := four_num (s := t) (by omega)
        rw [et4] at h0
        have := congrArg num h0
        have e1 := num_four (num t) (num_lt t) []
        have e2 := num_four p.length (by omega) []
        rw [List.append_nil] at e1 e2
        rw [e1, e2] at this
        exact this
      have e8 : t.drop 8 = p := by
        have h0 := record_drop8 p []
        rw [List.append_nil, List.append_nil, h] at h0
        rw [← ht, ← h0, List.drop_append, List.drop_append, List.drop_of_length_le (l := pre) (by omega), List.nil_append, List.nil_append]
        obtain ⟨k, hk⟩ : ∃ k, 8 - pre.length = k + 1 := ⟨7 - pre.length, by omega⟩
        rw [hk]; rfl
      refine hnext _ (next_sum (by omega) (by omega) (by omega) ?_) (by simp) rfl rfl
      rw [et4, hn, e8, List.take_of_length_le (Nat.le_refl _)]
      intro he
      have h1 : num (t.drop 4) = num ((record p).drop 4) := by rw [he, hr8, num_four _ (crc_lt _)]
      have h2 := num_inj (by simp; omega) (by simp [record_length]; omega) h1
      rw [h, ← ht] at h2
      have h3 := congrArg (fun l : List UInt8 => l[pre.length - 4]?) h2
      simp only [List.getElem?_take, List.getElem?_drop] at h3
      rw [if_pos (by omega), if_pos (by omega), show 4 + (pre.length - 4) = pre.length by omega] at h3
      simp at h3
      exact hne h3.symm
    · -- in the length
      have hn : num t ≠ p.length := by
        intro he
        have h1 : num t = num (record p) := by
          have := num_record p [] hp
          rw [List.append_nil] at this
          rw [he, this]
        have h2 := num_inj (by omega) (by rw [record_length]; omega) h1
        rw [h, ← ht] at h2
        have h3 := congrArg (fun l : List UInt8 => l[pre.length]?) h2
        simp only [List.getElem?_take] at h3
        rw [if_pos (by omega), if_pos (by omega)] at h3
        simp at h3
        exact hne h3.symm
      by_cases hbig : 1048576 < num t
      · exact hnext _ (next_more (by omega) hbig) (by simp) rfl rfl
      by_cases hcut : t.length < 8 + num t
      · exact hnext _ (next_cut (by omega) (by omega) hcut) (by simp) rfl rfl
      by_cases hsum : num (t.drop 4) = crc (t.take 4 ++ (t.drop 8).take (num t))
      · have hx := next_ok (s := t) (by omega) (by omega) (by omega) hsum
        have hrest : t.drop (8 + num t) ≠ [] := by
          intro he; have := congrArg List.length he; simp at this; omega
        have : one t = ([], 32) := by unfold one; rw [if_pos (by rw [hx]; exact hrest)]
        rw [this]; simp
      · exact hnext _ (next_sum (by omega) (by omega) (by omega) hsum) (by simp) rfl rfl

end Go.Proofs.YtjajoiahgfafgaaDoor.Plain
end

/- arch: what an archive is, its bytes, as plain functions of lists. -/
section
set_option linter.unusedVariables false
namespace Go.Proofs.YtjajoiahgfafgaaDoor
namespace Plain

structure Stp where
  ino : Int
  size : Int
  time : Int
deriving DecidableEq
instance : Inhabited Stp := ⟨⟨0, 0, 0⟩⟩
structure Arc where
  pair : List UInt8
  serial : Int
  tree : List Nd
  stamps : List Stp
def zeroA : Arc := ⟨[], 0, [], []⟩

def digitsS (s : List UInt8) : Bool := (s.length == 64) && s.all (fun c => digs.contains c)
def bareN (n : Nd) : Bool := (n.kind == 2) || digitsS n.data
def isBareT (t : List Nd) : Bool := treeOK t && t.all bareN
def stampOK (s : Stp) : Bool := decide (0 ≤ s.ino) && decide (0 ≤ s.size) && decide (0 ≤ s.time)
def checkA (a : Arc) : Bool := !a.pair.isEmpty && decide (a.pair.length ≤ 64) && decide (0 ≤ a.serial) && isBareT a.tree && (a.stamps.length == a.tree.length) && a.stamps.all stampOK
def bareOf (n : Nd) : Nd := if n.kind == 2 then n else { n with data := hex (sha n.data) }
def magicB : List UInt8 := [104, 97, 119, 115, 101, 114, 32, 49]
def numI (n : Int) : List UInt8 := numB n.toNat
def nodeB (x : Nd × Stp) : List UInt8 := textB x.1.path ++ (numI x.1.kind ++ (numI x.1.mode ++ (textB x.1.data ++ (numI x.2.ino ++ (numI x.2.size ++ numI x.2.time)))))
def headB (a : Arc) : List UInt8 := textB magicB ++ (textB a.pair ++ (numI a.serial ++ numB a.tree.length))
def payA (a : Arc) : List UInt8 := headB a ++ (a.tree.zip a.stamps).flatMap nodeB
def encodeA (a : Arc) : List UInt8 × Nat := if checkA a then (record (payA a), 0) else ([], 90)

theorem checkA_parts {a : Arc} (h : checkA a = true) : a.pair ≠ [] ∧ a.pair.length ≤ 64 ∧ 0 ≤ a.serial ∧ isBareT a.tree = true ∧ a.stamps.length = a.tree.length ∧ ∀ s ∈ a.stamps, 0 ≤ s.ino ∧ 0 ≤ s.size ∧ 0 ≤ s.time := by
  unfold checkA at h
  simp only [Bool.and_eq_true, decide_eq_true_eq, Bool.not_eq_true', List.isEmpty_eq_false_iff, beq_iff_eq, List.all_eq_true, stampOK] at h
  exact ⟨h.1.1.1.1.1, h.1.1.1.1.2, h.1.1.1.2, h.1.1.2, h.1.2, fun s hs => ⟨(h.2 s hs).1.1, (h.2 s hs).1.2, (h.2 s hs).2⟩⟩
/-- the bounds of a node of a tree -/
theorem node_bounds {n : Nd} (hp : pathOK n.path = true) (hr : rightN n = true) : n.path.length ≤ 400 ∧ (1 ≤ n.kind ∧ n.kind ≤ 3) ∧ (0 ≤ n.mode ∧ n.mode ≤ 511) ∧ n.data.length ≤ 65536 := by
  refine ⟨pathOK_len hp, ?_⟩
  unfold rightN at hr
  split at hr
  · simp at hr; omega
  · split at hr
    · simp at hr; rw [hr.1]; simp; omega
    · split at hr
      · simp at hr; omega
      · cases hr
theorem tree_bounds {t : List Nd} (h : treeOK t = true) : t.length ≤ 1000 ∧ ∀ n ∈ t, n.path.length ≤ 400 ∧ (1 ≤ n.kind ∧ n.kind ≤ 3) ∧ (0 ≤ n.mode ∧ n.mode ≤ 511) ∧ n.data.length ≤ 65536 := by
  obtain ⟨-, h1, h2⟩ := treeOK_srt h
  refine ⟨h1, fun n hn => ?_⟩
  obtain ⟨j, hj, rfl⟩ := List.getElem_of_mem hn
  have h3 := h2 j hj
  unfold nodeOK at h3
  simp only [Bool.and_eq_true] at h3
  rw [List.getD_eq_getElem?_getD, List.getElem?_eq_getElem hj, Option.getD_some] at h3
  exact node_bounds h3.1.1.1 h3.1.1.2
theorem bare_len {n : Nd} (hb : bareN n = true) (hr : rightN n = true) : n.data.length ≤ 64 := by
  unfold bareN digitsS at hb
  simp only [Bool.or_eq_true, beq_iff_eq, Bool.and_eq_true] at hb
  rcases hb with h | h
  · unfold rightN at hr
    rw [if_neg (by omega), if_pos h] at hr
    simp at hr
    rw [hr.1]; simp
  · omega
theorem bare_bounds {t : List Nd} (h : isBareT t = true) : t.length ≤ 1000 ∧ ∀ n ∈ t, n.path.length ≤ 400 ∧ (1 ≤ n.kind ∧ n.kind ≤ 3) ∧ (0 ≤ n.mode ∧ n.mode ≤ 511) ∧ n.data.length ≤ 64 := by
  unfold isBareT at h
  rw [Bool.and_eq_true, List.all_eq_true] at h
  obtain ⟨h1, h2⟩ := tree_bounds h.1
  refine ⟨h1, fun n hn => ⟨(h2 n hn).1, (h2 n hn).2.1, (h2 n hn).2.2.1, bare_len (h.2 n hn) ?_⟩⟩
  obtain ⟨j, hj, rfl⟩ := List.getElem_of_mem hn
  have h3 := (treeOK_srt h.1).2.2 j hj
  unfold nodeOK at h3
  simp only [Bool.and_eq_true] at h3
  rw [List.getD_eq_getElem?_getD, List.getElem?_eq_getElem hj, Option.getD_some] at h3
  exact h3.1.1.2
theorem nodeB_length (x : Nd × Stp) : (nodeB x).length ≤ 63 + x.1.path.length + x.1.data.length := by
  have h1 := textB_length x.1.path
  have h2 := textB_length x.1.data
  have h3 := numB_length x.1.kind.toNat
  have h4 := numB_length x.1.mode.toNat
  have h5 := numB_length x.2.ino.toNat
  have h6 := numB_length x.2.size.toNat
  have h7 := numB_length x.2.time.toNat
  unfold nodeB numI
  simp only [List.length_append]
  omega
theorem nodesB_length : ∀ (l : List (Nd × Stp)), (∀ x ∈ l, x.1.path.length ≤ 400 ∧ x.1.data.length ≤ 64) → (l.flatMap nodeB).length ≤ 527 * l.length
  | [], _ => by simp
  | x :: l, h => by
    have h1 := nodeB_length x
    have h2 := h x (List.mem_cons_self ..)
    have h3 := nodesB_length l (fun y hy => h y (List.mem_cons_of_mem _ hy))
    rw [List.flatMap_cons, List.length_append, List.length_cons]
    omega
theorem headB_length (a : Arc) : (headB a).length ≤ 44 + a.pair.length := by
  have h1 := textB_length magicB
  have h0 : magicB.length = 8 := rfl
  have h2 := textB_length a.pair
  have h3 := numB_length a.serial.toNat
  have h4 := numB_length a.tree.length
  unfold headB numI
  simp only [List.length_append]
  omega
theorem payA_length {a : Arc} (h : checkA a = true) : (payA a).length ≤ 1048576 := by
  obtain ⟨-, h1, h2, h3, h4, h5⟩ := checkA_parts h
  obtain ⟨h6, h7⟩ := bare_bounds h3
  have h8 := headB_length a
  have h9 := nodesB_length (a.tree.zip a.stamps) (fun x hx => by
    have := h7 x.1 (List.of_mem_zip hx).1
    exact ⟨this.1, this.2.2.2⟩)
  have h10 : (a.tree.zip a.stamps).length ≤ 1000 := by rw [List.length_zip]; omega
  unfold payA
  rw [List.length_append]
  omega

/-! ### Reading -/
def readN (st : St) : (Nd × Stp) × St :=
  let s1 := (takeR (passText 400) st).2
  let s2 := (takeR passNum s1).2
  let s3 := (takeR passNum s2).2
  let s4 := (takeR (passText 64) s3).2
  let s5 := (takeR passNum s4).2
  let s6 := (takeR passNum s5).2
  ((⟨textR 400 st, ((takeR passNum s1).1 : Nat), textR 64 s3, ((takeR passNum s2).1 : Nat)⟩, ⟨((takeR passNum s4).1 : Nat), ((takeR passNum s5).1 : Nat), ((takeR passNum s6).1 : Nat)⟩), (takeR passNum s6).2)
def readNs : Nat → St → List (Nd × Stp) × St
  | 0, st => ([], st)
  | n + 1, st => ((readN st).1 :: (readNs n (readN st).2).1, (readNs n (readN st).2).2)
/-- what the fields of a payload are -/
structure Dec where
  magic : List UInt8
  pair : List UInt8
  serial : Nat
  count : Nat
  rest : St
def readH (p : List UInt8) : Dec :=
  let s1 := (takeR (passText 8) (p, 0)).2
  let s2 := (takeR (passText 64) s1).2
  let s3 := (takeR passNum s2).2
  ⟨textR 8 (p, 0), textR 64 s1, (takeR passNum s2).1, (takeR (passCount 1000 7) s3).1, (takeR (passCount 1000 7) s3).2⟩
def arcOf (d : Dec) (l : List (Nd × Stp)) : Arc := ⟨d.pair, d.serial, l.map Prod.fst, l.map Prod.snd⟩
def doneA (d : Dec) (l : List (Nd × Stp)) (st : St) : Arc × Nat := if endR st ≠ 0 ∨ checkA (arcOf d l) = false then (zeroA, 90) else (arcOf d l, 0)
def decodeA (s : List UInt8) : Arc × Nat :=
  if (one s).2 ≠ 0 ∨ textR 8 ((one s).1, 0) ≠ magicB then (zeroA, 90)
  else doneA (readH (one s).1) (readNs (readH (one s).1).count (readH (one s).1).rest).1 (readNs (readH (one s).1).count (readH (one s).1).rest).2

theorem takeR_stuck {pass : Nat → List UInt8 → List UInt8 × Nat} {st : St} (h : st.2 ≠ 0) : takeR pass st = (0, st) := by
  obtain ⟨s, f⟩ := st; exact takeR_bad h
theorem readN_stuck {st : St} (h : st.2 ≠ 0) : (readN st).2 = st := by
  unfold readN
  simp only [takeR_stuck h]
theorem readNs_stuck {st : St} (h : st.2 ≠ 0) : ∀ n, (readNs n st).2 = st
  | 0 => rfl
  | n + 1 => by
    unfold readNs
    simp only [readN_stuck h]
    exact readNs_stuck h n
theorem readNs_length : ∀ n st, (readNs n st).1.length = n
  | 0, _ => rfl
  | n + 1, st => by unfold readNs; simp [readNs_length n]
theorem endR_bad {st : St} (h : st.2 ≠ 0) : endR st ≠ 0 := by
  unfold endR
  rw [if_neg (by simp [h])]; exact h

/-! ### What is written is read back -/
theorem takeR_text {t R : List UInt8} {most : Int} (hn : t.length < 9223372036854775808) (hm : (t.length : Int) ≤ most) : takeR (passText most) (textB t ++ R, 0) = (t.length, (R, 0)) := by
  unfold textB
  rw [List.append_assoc]
  refine takeR_ok (numR_numB hn _) ?_
  unfold passText
  rw [if_neg (by omega), if_neg (by rw [List.length_append]; omega)]; simp
theorem textR_text {t R : List UInt8} {most : Int} (hn : t.length < 9223372036854775808) (hm : (t.length : Int) ≤ most) : textR most (textB t ++ R, 0) = t := by
  have hp : passText most t.length (t ++ R) = (R, 0) := by
    unfold passText
    rw [if_neg (by omega), if_neg (by rw [List.length_append]; omega)]; simp
  unfold textB
  rw [List.append_assoc]
  simp [textR, numR_numB hn, hp]
theorem takeR_numI {n : Int} (h : 0 ≤ n) (h2 : n < 9223372036854775808) (R : List UInt8) : takeR passNum (numI n ++ R, 0) = (n.toNat, (R, 0)) := back_num (by omega) R

/-- a node's numbers, as they can be written -/
def Fits (x : Nd × Stp) : Prop := x.1.path.length ≤ 400 ∧ x.1.data.length ≤ 64 ∧ (0 ≤ x.1.kind ∧ x.1.kind < 9223372036854775808) ∧ (0 ≤ x.1.mode ∧ x.1.mode < 9223372036854775808) ∧ (0 ≤ x.2.ino ∧ x.2.ino < 9223372036854775808) ∧ (0 ≤ x.2.size ∧ x.2.size < 9223372036854775808) ∧ (0 ≤ x.2.time ∧ x.2.time < 9223372036854775808)
theorem readN_back {x : Nd × Stp} (h : Fits x) (R : List UInt8) : readN (nodeB x ++ R, 0) = (x, (R, 0)) := by
  obtain ⟨⟨p, k, d, m⟩, ⟨i, s, t⟩⟩ := x
  obtain ⟨h1, h2, ⟨h3, h3'⟩, ⟨h4, h4'⟩, ⟨h5, h5'⟩, ⟨h6, h6'⟩, ⟨h7, h7'⟩⟩ := h
  simp only at h1 h2 h3 h3' h4 h4' h5 h5' h6 h6' h7 h7'
  unfold nodeB
  simp only [List.append_assoc]
  unfold readN
  simp only
  rw [takeR_text (by omega) (by omega), textR_text (by omega) (by omega)]
  simp only
  rw [takeR_numI h3 h3']
  simp only
  rw [takeR_numI h4 h4']
  simp only
  rw [takeR_text (by omega) (by omega), textR_text (by omega) (by omega)]
  simp only
  rw [takeR_numI h5 h5']
  simp only
  rw [takeR_numI h6 h6']
  simp only
  rw [takeR_numI h7 h7']
  simp only
  rw [Int.toNat_of_nonneg h3, Int.toNat_of_nonneg h4, Int.toNat_of_nonneg h5, Int.toNat_of_nonneg h6, Int.toNat_of_nonneg h7]
theorem readNs_back : ∀ (l : List (Nd × Stp)) (R : List UInt8), (∀ x ∈ l, Fits x) → readNs l.length (l.flatMap nodeB ++ R, 0) = (l, (R, 0))
  | [], R, _ => rfl
  | x :: l, R, h => by
    rw [List.flatMap_cons, List.append_assoc, List.length_cons]
    unfold readNs
    rw [readN_back (h x (List.mem_cons_self ..)), readNs_back l R (fun y hy => h y (List.mem_cons_of_mem _ hy))]
theorem nodeB_pos (x : Nd × Stp) : 7 ≤ (nodeB x).length := by
  have h1 := numB_pos x.1.path.length
  have h2 := numB_pos x.1.data.length
  have h3 := numB_pos x.1.kind.toNat
  have h4 := numB_pos x.1.mode.toNat
  have h5 := numB_pos x.2.ino.toNat
  have h6 := numB_pos x.2.size.toNat
  have h7 := numB_pos x.2.time.toNat
  unfold nodeB numI textB
  simp only [List.length_append]
  omega
theorem nodesB_pos : ∀ l : List (Nd × Stp), 7 * l.length ≤ (l.flatMap nodeB).length
  | [] => by simp
  | x :: l => by
    have h1 := nodeB_pos x
    have h2 := nodesB_pos l
    rw [List.flatMap_cons, List.length_append, List.length_cons]; omega
/-- an archive's numbers are the machine's -/
def Small (a : Arc) : Prop := a.serial < 9223372036854775808 ∧ ∀ s ∈ a.stamps, s.ino < 9223372036854775808 ∧ s.size < 9223372036854775808 ∧ s.time < 9223372036854775808
theorem zip_fits {a : Arc} (h : checkA a = true) (hs : Small a) : ∀ x ∈ a.tree.zip a.stamps, Fits x := by
  obtain ⟨-, h1, h2, h3, h4, h5⟩ := checkA_parts h
  obtain ⟨h6, h7⟩ := bare_bounds h3
  intro x hx
  have e1 := h7 x.1 (List.of_mem_zip hx).1
  have e2 := h5 x.2 (List.of_mem_zip hx).2
  have e3 := hs.2 x.2 (List.of_mem_zip hx).2
  exact ⟨e1.1, e1.2.2.2, ⟨by omega, by omega⟩, ⟨by omega, by omega⟩, ⟨by omega, by omega⟩, ⟨by omega, by omega⟩, ⟨by omega, by omega⟩⟩
theorem zip_fst {α β : Type} (l : List α) (k : List β) (h : k.length = l.length) : (l.zip k).map Prod.fst = l := by rw [List.map_fst_zip]; omega
theorem zip_snd {α β : Type} (l : List α) (k : List β) (h : k.length = l.length) : (l.zip k).map Prod.snd = k := by rw [List.map_snd_zip]; omega
theorem readH_back {a : Arc} (h : checkA a = true) (hs : Small a) : readH (payA a) = ⟨magicB, a.pair, a.serial.toNat, a.tree.length, ((a.tree.zip a.stamps).flatMap nodeB, 0)⟩ := by
  obtain ⟨-, h1, h2, h3, h4, h5⟩ := checkA_parts h
  obtain ⟨h6, h7⟩ := bare_bounds h3
  have h0 : magicB.length = 8 := rfl
  unfold readH payA headB
  simp only [List.append_assoc]
  rw [takeR_text (by omega) (by omega), textR_text (by omega) (by omega)]
  simp only
  rw [takeR_text (by omega) (by omega), textR_text (by omega) (by omega)]
  simp only
  rw [takeR_numI h2 hs.1]
  simp only
  have hc : takeR (passCount 1000 7) (numB a.tree.length ++ (a.tree.zip a.stamps).flatMap nodeB, 0) = (a.tree.length, ((a.tree.zip a.stamps).flatMap nodeB, 0)) := by
    refine takeR_ok (numR_numB (by omega) _) ?_
    have hp := nodesB_pos (a.tree.zip a.stamps)
    rw [List.length_zip, h4, Nat.min_self] at hp
    unfold passCount
    rw [if_neg (by omega), if_neg (by
      rw [show (max (7 : Int) 1).toNat = 7 from rfl]
      rw [Nat.not_lt, Nat.le_div_iff_mul_le (by omega)]; omega)]
  rw [hc]
theorem decode_back {a : Arc} (h : checkA a = true) (hs : Small a) : decodeA (record (payA a)) = (a, 0) := by
  obtain ⟨-, h1, h2, h3, h4, h5⟩ := checkA_parts h
  have hone := one_record (payA a) (payA_length h)
  have hrh := readH_back h hs
  have hm : textR 8 (payA a, 0) = magicB := by have := congrArg Dec.magic hrh; exact this
  have hns := readNs_back (a.tree.zip a.stamps) [] (zip_fits h hs)
  rw [List.append_nil, List.length_zip, h4, Nat.min_self] at hns
  unfold decodeA
  rw [hone]
  simp only
  rw [hm, hrh]
  simp only [ne_eq, not_true_eq_false, or_self, if_false]
  rw [hns]
  simp only
  have harc : arcOf ⟨magicB, a.pair, a.serial.toNat, a.tree.length, ((a.tree.zip a.stamps).flatMap nodeB, 0)⟩ (a.tree.zip a.stamps) = a := by
    unfold arcOf
    simp only
    rw [zip_fst _ _ h4, zip_snd _ _ h4, Int.toNat_of_nonneg h2]
  unfold doneA
  rw [harc, h]
  simp [endR]
/-- two archives of the same bytes are the same -/
theorem record_inj {p q : List UInt8} (hp : p.length ≤ 1048576) (hq : q.length ≤ 1048576) (h : record p = record q) : p = q := by
  have h1 := one_record p hp
  rw [h, one_record q hq] at h1
  injection h1 with h1 _
  exact h1.symm
theorem pay_inj {a b : Arc} (ha : checkA a = true) (hb : checkA b = true) (sa : Small a) (sb : Small b) (h : record (payA a) = record (payA b)) : a = b := by
  have h1 := decode_back ha sa
  rw [h, decode_back hb sb] at h1
  injection h1 with h1 _
  exact h1.symm

/-! ### What is read is written back -/
theorem step_text' {most : Int} {s : List UInt8} (h : (takeR (passText most) (s, 0)).2.2 = 0) : s = textB (textR most (s, 0)) ++ (takeR (passText most) (s, 0)).2.1 := by
  rcases (step_text most s).1 with h1 | h1
  · exact absurd h h1.1
  · exact h1.2.1
theorem step_num' {s : List UInt8} (h : (takeR passNum (s, 0)).2.2 = 0) : s = numB (takeR passNum (s, 0)).1 ++ (takeR passNum (s, 0)).2.1 := by
  rcases (step_num s).1 with h1 | h1
  · exact absurd h h1.1
  · exact h1.2.1
theorem step_count' {most least : Int} {s : List UInt8} (h : (takeR (passCount most least) (s, 0)).2.2 = 0) : s = numB (takeR (passCount most least) (s, 0)).1 ++ (takeR (passCount most least) (s, 0)).2.1 := by
  rcases (step_count most least s).1 with h1 | h1
  · exact absurd h h1.1
  · exact h1.2.1
theorem good_ahead {pass : Nat → List UInt8 → List UInt8 × Nat} {st : St} (h : (takeR pass st).2.2 = 0) : st.2 = 0 := by
  by_cases e : st.2 = 0
  · exact e
  · rw [takeR_stuck e] at h; exact absurd h e
theorem pair_of {st : St} (h : st.2 = 0) : st = (st.1, 0) := by rw [← h]
theorem readN_wrote {st : St} (h : (readN st).2.2 = 0) : st.2 = 0 ∧ st.1 = nodeB (readN st).1 ++ (readN st).2.1 := by
  obtain ⟨s, f⟩ := st
  unfold readN at h ⊢
  simp only at h ⊢
  have g6 := good_ahead h
  have g5 := good_ahead g6
  have g4 := good_ahead g5
  have g3 := good_ahead g4
  have g2 := good_ahead g3
  have g1 := good_ahead g2
  have g0 := good_ahead g1
  simp only at g0
  subst g0
  refine ⟨rfl, ?_⟩
  generalize hs1 : (takeR (passText 400) (s, 0)).2 = s1 at *
  generalize hs2 : (takeR passNum s1).2 = s2 at *
  generalize hs3 : (takeR passNum s2).2 = s3 at *
  generalize hs4 : (takeR (passText 64) s3).2 = s4 at *
  generalize hs5 : (takeR passNum s4).2 = s5 at *
  generalize hs6 : (takeR passNum s5).2 = s6 at *
  obtain ⟨s1, f1⟩ := s1
  obtain ⟨s2, f2⟩ := s2
  obtain ⟨s3, f3⟩ := s3
  obtain ⟨s4, f4⟩ := s4
  obtain ⟨s5, f5⟩ := s5
  obtain ⟨s6, f6⟩ := s6
  simp only at g1 g2 g3 g4 g5 g6
  subst g1 g2 g3 g4 g5 g6
  have e0 := step_text' (most := 400) (s := s) (by rw [hs1])
  have e1 := step_num' (s := s1) (by rw [hs2])
  have e2 := step_num' (s := s2) (by rw [hs3])
  have e3 := step_text' (most := 64) (s := s3) (by rw [hs4])
  have e4 := step_num' (s := s4) (by rw [hs5])
  have e5 := step_num' (s := s5) (by rw [hs6])
  have e6 := step_num' (s := s6) h
  rw [hs1] at e0; rw [hs2] at e1; rw [hs3] at e2; rw [hs4] at e3; rw [hs5] at e4; rw [hs6] at e5
  unfold nodeB numI
  simp only [List.append_assoc, Int.toNat_natCast]
  conv => lhs; rw [e0]
  simp only
  congr 1
  conv => lhs; rw [e1]
  simp only
  congr 1
  conv => lhs; rw [e2]
  simp only
  congr 1
  conv => lhs; rw [e3]
  simp only
  congr 1
  conv => lhs; rw [e4]
  simp only
  congr 1
  conv => lhs; rw [e5]
  simp only
  congr 1
theorem readNs_wrote : ∀ (n : Nat) (st : St), (readNs n st).2.2 = 0 → st.2 = 0 ∧ st.1 = (readNs n st).1.flatMap nodeB ++ (readNs n st).2.1
  | 0, st, h => ⟨h, rfl⟩
  | n + 1, st, h => by
    unfold readNs at h ⊢
    obtain ⟨h1, h2⟩ := readNs_wrote n _ h
    obtain ⟨h3, h4⟩ := readN_wrote h1
    refine ⟨h3, ?_⟩
    rw [List.flatMap_cons, List.append_assoc, ← h2]
    exact h4
theorem readH_wrote {p : List UInt8} (h : (readH p).rest.2 = 0) : p = textB (readH p).magic ++ (textB (readH p).pair ++ (numB (readH p).serial ++ (numB (readH p).count ++ (readH p).rest.1))) := by
  unfold readH at h ⊢
  simp only at h ⊢
  have g3 := good_ahead h
  have g2 := good_ahead g3
  have g1 := good_ahead g2
  generalize hs1 : (takeR (passText 8) (p, 0)).2 = s1 at *
  generalize hs2 : (takeR (passText 64) s1).2 = s2 at *
  generalize hs3 : (takeR passNum s2).2 = s3 at *
  obtain ⟨s1, f1⟩ := s1
  obtain ⟨s2, f2⟩ := s2
  obtain ⟨s3, f3⟩ := s3
  simp only at g1 g2 g3
  subst g1 g2 g3
  have e0 := step_text' (most := 8) (s := p) (by rw [hs1])
  have e1 := step_text' (most := 64) (s := s1) (by rw [hs2])
  have e2 := step_num' (s := s2) (by rw [hs3])
  have e3 := step_count' (most := 1000) (least := 7) (s := s3) h
  rw [hs1] at e0; rw [hs2] at e1; rw [hs3] at e2
  conv => lhs; rw [e0]
  simp only
  congr 1
  conv => lhs; rw [e1]
  simp only
  congr 1
  conv => lhs; rw [e2]
  simp only
  congr 1
theorem zip_parts {α β : Type} : ∀ l : List (α × β), (l.map Prod.fst).zip (l.map Prod.snd) = l
  | [] => rfl
  | x :: l => by simp [zip_parts l]
theorem endR_zero {st : St} (h : endR st = 0) : st.1 = [] ∧ st.2 = 0 := by
  unfold endR at h
  by_cases h1 : st.2 = 0 ∧ st.1 ≠ []
  · rw [if_pos h1] at h; cases h
  · rw [if_neg h1] at h
    refine ⟨?_, h⟩
    exact Classical.byContradiction fun e => h1 ⟨h, e⟩
theorem one_wrote {s : List UInt8} (h : (one s).2 = 0) : s = record (one s).1 ∧ (one s).1.length ≤ 1048576 := by
  unfold one at h ⊢
  by_cases h1 : (next s).2.1 ≠ []
  · rw [if_pos h1] at h; cases h
  · rw [if_neg h1] at h ⊢
    have h2 := record_of_next s h
    simp only [ne_eq, Decidable.not_not] at h1
    rw [h1, List.append_nil] at h2
    exact h2
theorem wrote_pay {s p : List UInt8} {d : Dec} {l : List (Nd × Stp)} (h1 : s = record p) (h2 : p = textB d.magic ++ (textB d.pair ++ (numB d.serial ++ (numB d.count ++ l.flatMap nodeB)))) (h3 : d.magic = magicB) (h4 : l.length = d.count) :
    s = record (payA (arcOf d l)) := by
  rw [h1, h2, h3]
  congr 1
  unfold payA headB arcOf numI
  simp only [List.append_assoc, Int.toNat_natCast, List.length_map, h4]
  rw [zip_parts]
theorem decode_wrote {s : List UInt8} {a : Arc} (h : decodeA s = (a, 0)) : checkA a = true ∧ s = record (payA a) := by
  unfold decodeA at h
  split at h
  · simp at h
  · rename_i h1
    simp only [ne_eq, not_or, Decidable.not_not] at h1
    obtain ⟨h1, h2⟩ := h1
    unfold doneA at h
    split at h
    · simp at h
    · rename_i h3
      simp only [ne_eq, not_or, Decidable.not_not, Bool.not_eq_false] at h3
      have h4 := (Prod.mk.inj h).1
      rw [h4] at h3
      refine ⟨h3.2, ?_⟩
      obtain ⟨e1, e2⟩ := endR_zero h3.1
      have h5 := readNs_wrote _ _ e2
      rw [e1, List.append_nil] at h5
      have h6 := readH_wrote h5.1
      rw [h5.2] at h6
      have hl := readNs_length (readH (one s).1).count (readH (one s).1).rest
      have h9 := one_wrote h1
      have hm : (readH (one s).1).magic = magicB := h2
      rw [← h4]
      exact wrote_pay h9.1 h6 hm hl

theorem decode_turned {a : Arc} (h : checkA a = true) (pre suf : List UInt8) {c d : UInt8} (hne : c ≠ d) (he : record (payA a) = pre ++ c :: suf) : (one (pre ++ d :: suf)).2 ≠ 0 := (one_turned (payA a) (payA_length h) pre suf hne he).2
end Plain
end Go.Proofs.YtjajoiahgfafgaaDoor
end
