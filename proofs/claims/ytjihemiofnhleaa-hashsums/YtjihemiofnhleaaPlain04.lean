/- Plain laws of the check sum: no program in sight. -/
import Derived.Laws.BitsAllLaws
import Derived.Laws.BitsLemmas
namespace Go.Proofs.Ytjihemiofnhleaa.Plain

/-- One bit's step. -/
def bit1 (v : Nat) : Nat := if v % 2 = 1 then (v / 2) ^^^ 3988292384 else v / 2
def bits1 : Nat → Nat → Nat
  | 0, v => v
  | n + 1, v => bit1 (bits1 n v)
/-- One byte's step. -/
def crcB (v : Nat) (c : UInt8) : Nat := bits1 8 (v ^^^ c.toNat)
def crcRun (l : List UInt8) : Nat := l.foldl crcB 4294967295
def crc (l : List UInt8) : Nat := crcRun l ^^^ 4294967295

theorem xor_lt {a b : Nat} (ha : a < 4294967296) (hb : b < 4294967296) : a ^^^ b < 4294967296 := by
  have := Nat.xor_lt_two_pow (n := 32) (x := a) (y := b) (by omega) (by omega); omega

theorem bit1_lt {v : Nat} (h : v < 4294967296) : bit1 v < 4294967296 := by
  unfold bit1; split
  · exact xor_lt (by omega) (by omega)
  · omega
theorem bits1_lt {n v : Nat} (h : v < 4294967296) : bits1 n v < 4294967296 := by
  induction n with
  | zero => exact h
  | succ n ih => exact bit1_lt ih
theorem crcB_lt {v : Nat} (h : v < 4294967296) (c : UInt8) : crcB v c < 4294967296 := by
  have := c.toNat_lt
  exact bits1_lt (xor_lt h (by omega))
theorem foldl_crcB_lt (l : List UInt8) : ∀ {v : Nat}, v < 4294967296 → l.foldl crcB v < 4294967296 := by
  induction l with
  | nil => intro v h; exact h
  | cons c l ih => intro v h; exact ih (crcB_lt h c)
theorem crcRun_lt (l : List UInt8) : crcRun l < 4294967296 := foldl_crcB_lt l (by omega)
theorem crc_lt (l : List UInt8) : crc l < 4294967296 := xor_lt (crcRun_lt l) (by omega)

theorem xor_mod2 (a b : Nat) : (a ^^^ b) % 2 = (a % 2 + b % 2) % 2 := by
  have h := Nat.testBit_xor (x := a) (y := b) (i := 0)
  simp only [Nat.testBit_zero] at h
  rcases Nat.mod_two_eq_zero_or_one a with ha | ha <;> rcases Nat.mod_two_eq_zero_or_one b with hb | hb <;> rcases Nat.mod_two_eq_zero_or_one (a ^^^ b) with hc | hc <;> rw [ha, hb, hc] at h <;> simp at h <;> omega
theorem xor_div2 (a b : Nat) : (a ^^^ b) / 2 = a / 2 ^^^ b / 2 := by
  apply Nat.eq_of_testBit_eq
  intro i
  simp [Nat.testBit_xor, Nat.testBit_div_two]

theorem bit1_xor (a b : Nat) : bit1 (a ^^^ b) = bit1 a ^^^ bit1 b := by
  unfold bit1
  have h2 := xor_mod2 a b
  rw [xor_div2]
  rcases Nat.mod_two_eq_zero_or_one a with ha | ha <;> rcases Nat.mod_two_eq_zero_or_one b with hb | hb
  · rw [if_neg (by omega), if_neg (by omega), if_neg (by omega)]
  · rw [if_pos (by omega), if_neg (by omega), if_pos (by omega), Nat.xor_assoc]
  · rw [if_pos (by omega), if_pos (by omega), if_neg (by omega), Nat.xor_assoc, Nat.xor_comm (b / 2), Nat.xor_assoc]
  · rw [if_neg (by omega), if_pos (by omega), if_pos (by omega)]
    rw [Nat.xor_assoc, ← Nat.xor_assoc 3988292384, Nat.xor_comm 3988292384 (b / 2), Nat.xor_assoc (b / 2), Nat.xor_self, Nat.xor_zero]
theorem bits1_xor (n a b : Nat) : bits1 n (a ^^^ b) = bits1 n a ^^^ bits1 n b := by
  induction n with
  | zero => rfl
  | succ n ih => simp only [bits1, ih, bit1_xor]
theorem bit1_even (k : Nat) : bit1 (2 * k) = k := by
  unfold bit1; rw [if_neg (by omega)]; omega
theorem bits1_add (n m v : Nat) : bits1 (n + m) v = bits1 n (bits1 m v) := by
  induction n with
  | zero => simp [bits1]
  | succ n ih => rw [Nat.succ_add]; simp only [bits1, ih]
theorem bits1_4_16 (k : Nat) : bits1 4 (16 * k) = k := by
  simp only [bits1]
  rw [show 16 * k = 2 * (8 * k) by omega, bit1_even, show 8 * k = 2 * (4 * k) by omega, bit1_even, show 4 * k = 2 * (2 * k) by omega, bit1_even, bit1_even]
theorem split16 (v : Nat) : v = 16 * (v / 16) ^^^ v % 16 := by
  have h : 16 * (v / 16) ^^^ v % 16 = 16 * (v / 16) + v % 16 := by
    have h1 := Nat.two_pow_add_eq_or_of_lt (i := 4) (b := v % 16) (by omega) (v / 16)
    have h2 : 16 * (v / 16) ||| v % 16 = 16 * (v / 16) ^^^ v % 16 := by
      apply Nat.eq_of_testBit_eq
      intro i
      have e : 16 * (v / 16) = 2 ^ 4 * (v / 16) := by omega
      rw [Nat.testBit_or, Nat.testBit_xor, e, Nat.testBit_two_pow_mul]
      by_cases hi : 4 ≤ i
      · have : (v % 16).testBit i = false := by
          rw [show v % 16 = v % 2 ^ 4 by omega, Nat.testBit_mod_two_pow]; simp; omega
        simp [this]
      · simp [hi]
    rw [show (2 : Nat) ^ 4 = 16 by rfl] at h1
    omega
  omega
/-- four bits by the table -/
def nib (v : Nat) : Nat := v / 16 ^^^ bits1 4 (v % 16)
theorem nib_eq (v : Nat) : nib v = bits1 4 v := by
  conv => rhs; rw [split16 v, bits1_xor, bits1_4_16]
  rfl
theorem crcB_nib (v : Nat) (c : UInt8) : crcB v c = nib (nib (v ^^^ c.toNat)) := by
  rw [nib_eq, nib_eq, ← bits1_add]; rfl
theorem nib_lt {v : Nat} (h : v < 4294967296) : nib v < 4294967296 := by rw [nib_eq]; exact bits1_lt h

/-- the program's step of one bit -/
theorem bit1_go (x : Nat) (hx : x < 4294967296) :
    Go.bits .xor .u32 ((x : Int) / 2) (Go.bits .and .u32 3988292384 (-(Go.bits .and .u32 (x : Int) 1) % 4294967296)) = (bit1 x : Int) := by
  have h1 : Go.bits .and .u32 (x : Int) 1 = ((x % 2 : Nat) : Int) := by
    rw [show (1 : Int) = ((1 : Nat) : Int) by rfl, u32_and_nat x 1 hx (by omega), Nat.and_one_is_mod]
  rw [h1]
  unfold bit1
  rcases Nat.mod_two_eq_zero_or_one x with h | h
  · rw [h, if_neg (by omega)]
    rw [show (-((0 : Nat) : Int)) % 4294967296 = ((0 : Nat) : Int) by rfl, show (3988292384 : Int) = ((3988292384 : Nat) : Int) by rfl, u32_and_nat _ _ (by omega) (by omega), Nat.and_zero,
      show ((x : Int) / 2) = ((x / 2 : Nat) : Int) by omega, u32_xor_nat _ _ (by omega) (by omega), Nat.xor_zero]
  · rw [h, if_pos rfl]
    rw [show (-((1 : Nat) : Int)) % 4294967296 = ((4294967295 : Nat) : Int) by rfl, show (3988292384 : Int) = ((3988292384 : Nat) : Int) by rfl, u32_and_nat _ _ (by omega) (by omega),
      show (3988292384 &&& 4294967295 : Nat) = 3988292384 by rfl,
      show ((x : Int) / 2) = ((x / 2 : Nat) : Int) by omega, u32_xor_nat _ _ (by omega) (by omega)]

/-- what the program's round does: all intermediate numbers by name -/
theorem nib_go (v : Nat) (c : Nat) (hv : v < 4294967296) (hc : c < 256) : ∃ x1 m1 x2 m2 x3 : Nat, x1 < 4294967296 ∧ m1 < 16 ∧ x2 < 4294967296 ∧ m2 < 16 ∧
    Go.bits .xor .u32 (v : Int) (c : Int) = (x1 : Int) ∧ Go.bits .and .u32 (x1 : Int) 15 = (m1 : Int) ∧ Go.bits .xor .u32 ((x1 : Int) / 16) (bits1 4 m1 : Int) = (x2 : Int) ∧
    Go.bits .and .u32 (x2 : Int) 15 = (m2 : Int) ∧ Go.bits .xor .u32 ((x2 : Int) / 16) (bits1 4 m2 : Int) = (x3 : Int) ∧ x3 = nib (nib (v ^^^ c)) := by
  have h1 := xor_lt hv (show c < 4294967296 by omega)
  have h2 := nib_lt h1
  have hand : ∀ x : Nat, x < 4294967296 → Go.bits .and .u32 (x : Int) 15 = ((x % 16 : Nat) : Int) := fun x hx => by
    rw [show (15 : Int) = ((15 : Nat) : Int) by rfl, u32_and_nat _ _ hx (by omega)]
    have := Nat.and_two_pow_sub_one_eq_mod x 4
    simp at this
    rw [this]
  have hnib : ∀ x : Nat, x < 4294967296 → Go.bits .xor .u32 ((x : Int) / 16) (bits1 4 (x % 16) : Int) = (nib x : Int) := fun x hx => by
    rw [show ((x : Int) / 16) = ((x / 16 : Nat) : Int) by omega, u32_xor_nat _ _ (by omega) (bits1_lt (by omega))]
    rfl
  exact ⟨v ^^^ c, (v ^^^ c) % 16, nib (v ^^^ c), nib (v ^^^ c) % 16, _, h1, by omega, h2, by omega, u32_xor_nat _ _ hv (by omega), hand _ h1, hnib _ h1, hand _ h2, hnib _ h2, rfl⟩

theorem xor_ones (x : Nat) (hx : x < 4294967296) : x ^^^ 4294967295 = 4294967295 - x := by
  have h := congrArg BitVec.toNat (BitVec.xor_allOnes (x := BitVec.ofNat 32 x))
  rw [BitVec.toNat_xor, BitVec.toNat_not] at h
  simp [Nat.mod_eq_of_lt (show x < 2 ^ 32 by omega)] at h
  exact h
theorem bit1_ref1 (x : Nat) (hx : x < 4294967296) (h : x % 2 = 1) : Go.bits .xor .u32 ((x : Int) / 2) 3988292384 = (bit1 x : Int) := by
  unfold bit1
  rw [if_pos h, show ((x : Int) / 2) = ((x / 2 : Nat) : Int) by omega, show (3988292384 : Int) = ((3988292384 : Nat) : Int) by rfl, u32_xor_nat _ _ (by omega) (by omega)]
theorem bit1_ref0 (x : Nat) (h : x % 2 = 0) : ((x : Int) / 2) = (bit1 x : Int) := by
  unfold bit1
  rw [if_neg (by omega)]; omega
theorem not_go (x : Nat) (hx : x < 4294967296) : Go.bits .xor .u32 IntKind.u32.max (x : Int) = ((x ^^^ 4294967295 : Nat) : Int) := by
  rw [show IntKind.u32.max = ((4294967295 : Nat) : Int) by rfl, u32_xor_nat _ _ (by omega) hx, Nat.xor_comm]
end Go.Proofs.Ytjihemiofnhleaa.Plain
