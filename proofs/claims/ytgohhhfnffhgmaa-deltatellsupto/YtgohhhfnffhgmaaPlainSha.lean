/- Plain laws of the strong fingerprint: words of 32 bits; no program in sight. -/
import Derived.Laws.BitsAllLaws
import Derived.Laws.BitsLemmas
namespace Go.Proofs.Ytgohhhfnffhgmaa.Plain

/-- A word of 32 bits as a number of the model. -/
def V (x : UInt32) : Int := (x.toNat : Int)
theorem V_lt (x : UInt32) : 0 ≤ V x ∧ V x < 4294967296 := by have := x.toNat_lt; unfold V; omega
theorem V_inj {x y : UInt32} (h : V x = V y) : x = y := by
  unfold V at h; exact UInt32.toNat_inj.1 (by omega)
theorem V_of (n : Nat) : V (UInt32.ofNat n) = ((n % 4294967296 : Nat) : Int) := by
  unfold V; rw [UInt32.toNat_ofNat']
theorem V_xor (x y : UInt32) : Go.bits .xor .u32 (V x) (V y) = V (x ^^^ y) := by
  unfold V; rw [u32_xor_nat _ _ x.toNat_lt y.toNat_lt, UInt32.toNat_xor]
theorem V_and (x y : UInt32) : Go.bits .and .u32 (V x) (V y) = V (x &&& y) := by
  unfold V; rw [u32_and_nat _ _ x.toNat_lt y.toNat_lt, UInt32.toNat_and]
theorem V_or (x y : UInt32) : Go.bits .or .u32 (V x) (V y) = V (x ||| y) := by
  unfold V; rw [u32_or_nat _ _ x.toNat_lt y.toNat_lt, UInt32.toNat_or]
theorem V_not (x : UInt32) : Go.bits .xor .u32 4294967295 (V x) = V (~~~x) := by
  unfold V
  rw [show (4294967295 : Int) = ((4294967295 : Nat) : Int) by rfl, u32_xor_nat _ _ (by omega) x.toNat_lt]
  congr 1
theorem V_add (x y : UInt32) : (V x + V y) % (4294967296 : Int) = V (x + y) := by
  unfold V; rw [UInt32.toNat_add]; omega
theorem V_sub (x y : UInt32) : (V x - V y) % 4294967296 = V (x - y) := by
  unfold V; rw [UInt32.toNat_sub]; have := x.toNat_lt; have := y.toNat_lt; omega
theorem V_shr (x : UInt32) (n : Nat) (h : n < 32) : V x / 2 ^ n = V (x >>> UInt32.ofNat n) := by
  unfold V
  rw [UInt32.toNat_shiftRight, Nat.shiftRight_eq_div_pow, UInt32.toNat_ofNat']
  rw [show n % 2 ^ 32 % 32 = n by omega]
  push_cast; rfl
theorem V_shl (x : UInt32) (n : Nat) (h : n < 32) : (V x * 2 ^ n) % (4294967296 : Int) = V (x <<< UInt32.ofNat n) := by
  unfold V
  rw [UInt32.toNat_shiftLeft, Nat.shiftLeft_eq, UInt32.toNat_ofNat', show n % 2 ^ 32 % 32 = n by omega, Int.natCast_emod, Int.natCast_mul, Int.natCast_pow]
  rfl

theorem V_shr3 (x : UInt32) : V x / (8 : Int) = V (x >>> (3 : UInt32)) := V_shr x 3 (by omega)
theorem V_shr10 (x : UInt32) : V x / (1024 : Int) = V (x >>> (10 : UInt32)) := V_shr x 10 (by omega)
/-- turned to the right -/
def rotr (x n : UInt32) : UInt32 := x >>> n ||| x <<< (32 - n)

theorem rot_eq (x : UInt32) (n m : Nat) (hn : 1 ≤ n) (hm : m + n = 32) (hm1 : 1 ≤ m) :
    Go.bits .or .u32 (V x * 2 ^ m % 4294967296) (V x / 2 ^ (32 - m)) = V (rotr x (UInt32.ofNat n)) := by
  rw [V_shl x m (by omega), V_shr x (32 - m) (by omega), V_or]
  unfold rotr
  have h1 : (32 : UInt32) - UInt32.ofNat n = UInt32.ofNat m := by
    apply UInt32.toNat_inj.1
    rw [UInt32.toNat_sub, UInt32.toNat_ofNat', UInt32.toNat_ofNat']
    simp
    omega
  rw [h1, UInt32.or_comm, show 32 - m = n by omega]

/-- the eight words -/
structure S8 where
  (a b c d e f g h : UInt32)
deriving DecidableEq

def sig0 (x : UInt32) : UInt32 := rotr x 7 ^^^ rotr x 18 ^^^ x >>> 3
def sig1 (x : UInt32) : UInt32 := rotr x 17 ^^^ rotr x 19 ^^^ x >>> 10
def Sig0 (x : UInt32) : UInt32 := rotr x 2 ^^^ rotr x 13 ^^^ rotr x 22
def Sig1 (x : UInt32) : UInt32 := rotr x 6 ^^^ rotr x 11 ^^^ rotr x 25
def ch (e f g : UInt32) : UInt32 := e &&& f ^^^ ~~~e &&& g
def maj (a b c : UInt32) : UInt32 := a &&& b ^^^ a &&& c ^^^ b &&& c

theorem V_add4 (a b c d : UInt32) : (V a + V b + V c + V d) % 4294967296 = V (a + b + c + d) := by
  rw [← V_add, ← V_add, ← V_add]; omega
theorem V_add3 (a b c : UInt32) : (V a + V b + V c) % 4294967296 = V (a + b + c) := by
  rw [← V_add, ← V_add]; omega
theorem nextW_go (a x c y : UInt32) : (V a + Go.bits .xor .u32 (V (rotr x 7 ^^^ rotr x 18)) (V x / 8) + V c + Go.bits .xor .u32 (V (rotr y 17 ^^^ rotr y 19)) (V y / 1024)) % 4294967296 = V (a + sig0 x + c + sig1 y) := by
  rw [V_shr3, V_shr10, V_xor, V_xor, V_add4]; rfl

def step (v : S8) (k w : UInt32) : S8 :=
  let t := v.h + Sig1 v.e + ch v.e v.f v.g + k + w
  let s := Sig0 v.a + maj v.a v.b v.c
  ⟨t + s, v.a, v.b, v.c, v.d + t, v.e, v.f, v.g⟩
def add8 (v h : S8) : S8 := ⟨v.a + h.a, v.b + h.b, v.c + h.c, v.d + h.d, v.e + h.e, v.f + h.f, v.g + h.g, v.h + h.h⟩

theorem not_form : (if Go.IntKind.u32.signed = true then (-1 : Int) else Go.IntKind.u32.max) = 4294967295 := rfl
def tOf (h e f g k w : UInt32) : UInt32 := h + Sig1 e + ch e f g + k + w
def sOf (a b c : UInt32) : UInt32 := Sig0 a + maj a b c
theorem t_go (h e f g k w : UInt32) : ((V (h + (rotr e 6 ^^^ rotr e 11 ^^^ rotr e 25)) + Go.bits .xor .u32 (V (e &&& f)) (Go.bits .and .u32 (Go.bits .xor .u32 (if Go.IntKind.u32.signed = true then -1 else Go.IntKind.u32.max) (V e)) (V g)) + V k) % 4294967296 + V w) % 4294967296 =
    V (tOf h e f g k w) := by
  unfold tOf
  rw [not_form, V_not, V_and, V_xor, ← V_add (h + Sig1 e + ch e f g + k), ← V_add (h + Sig1 e + ch e f g), ← V_add (h + Sig1 e)]
  unfold Sig1 ch
  omega

/-- the rounds' constants -/
def KK : List UInt32 := [
  0x428a2f98, 0x71374491, 0xb5c0fbcf, 0xe9b5dba5, 0x3956c25b, 0x59f111f1, 0x923f82a4, 0xab1c5ed5,
  0xd807aa98, 0x12835b01, 0x243185be, 0x550c7dc3, 0x72be5d74, 0x80deb1fe, 0x9bdc06a7, 0xc19bf174,
  0xe49b69c1, 0xefbe4786, 0x0fc19dc6, 0x240ca1cc, 0x2de92c6f, 0x4a7484aa, 0x5cb0a9dc, 0x76f988da,
  0x983e5152, 0xa831c66d, 0xb00327c8, 0xbf597fc7, 0xc6e00bf3, 0xd5a79147, 0x06ca6351, 0x14292967,
  0x27b70a85, 0x2e1b2138, 0x4d2c6dfc, 0x53380d13, 0x650a7354, 0x766a0abb, 0x81c2c92e, 0x92722c85,
  0xa2bfe8a1, 0xa81a664b, 0xc24b8b70, 0xc76c51a3, 0xd192e819, 0xd6990624, 0xf40e3585, 0x106aa070,
  0x19a4c116, 0x1e376c08, 0x2748774c, 0x34b0bcb5, 0x391c0cb3, 0x4ed8aa4a, 0x5b9cca4f, 0x682e6ff3,
  0x748f82ee, 0x78a5636f, 0x84c87814, 0x8cc70208, 0x90befffa, 0xa4506ceb, 0xbef9a3f7, 0xc67178f2]
def H0 : S8 := ⟨0x6a09e667, 0xbb67ae85, 0x3c6ef372, 0xa54ff53a, 0x510e527f, 0x9b05688c, 0x1f83d9ab, 0x5be0cd19⟩

/-- four bytes as a word -/
def word (b0 b1 b2 b3 : UInt8) : UInt32 := UInt32.ofNat (b0.toNat * 16777216 + b1.toNat * 65536 + b2.toNat * 256 + b3.toNat)
/-- the i-th word of a block -/
def wordAt (b : List UInt8) (i : Nat) : UInt32 := word (b.getD (4 * i) 0) (b.getD (4 * i + 1) 0) (b.getD (4 * i + 2) 0) (b.getD (4 * i + 3) 0)
/-- one word more -/
def nextW (l : List UInt32) (n : Nat) : UInt32 := l.getD (n - 16) 0 + sig0 (l.getD (n - 15) 0) + l.getD (n - 7) 0 + sig1 (l.getD (n - 2) 0)
/-- the first n words -/
def sched (b : List UInt8) : Nat → List UInt32
  | 0 => []
  | n + 1 => sched b n ++ [if n < 16 then wordAt b n else nextW (sched b n) n]
def runW (w : List UInt32) (h : S8) : Nat → S8
  | 0 => h
  | n + 1 => step (runW w h n) (KK.getD n 0) (w.getD n 0)
def round (h : S8) (b : List UInt8) : S8 := add8 (runW (sched b 64) h 64) h
/-- n blocks -/
def runB : Nat → S8 → List UInt8 → S8
  | 0, h, _ => h
  | n + 1, h, l => runB n (round h (l.take 64)) (l.drop 64)
def bytes4 (x : UInt32) : List UInt8 := [UInt8.ofNat (x.toNat / 16777216), UInt8.ofNat (x.toNat / 65536), UInt8.ofNat (x.toNat / 256), UInt8.ofNat x.toNat]
def out8 (v : S8) : List UInt8 := bytes4 v.a ++ bytes4 v.b ++ bytes4 v.c ++ bytes4 v.d ++ bytes4 v.e ++ bytes4 v.f ++ bytes4 v.g ++ bytes4 v.h
/-- the bits' number, in eight bytes -/
def size8 (n : Nat) : List UInt8 := (List.range 8).map fun i => UInt8.ofNat (n * 8 / 2 ^ (56 - 8 * i))
/-- how many noughts -/
def noughts (n : Nat) : Nat := (119 - n % 64) % 64
def padding (n : Nat) : List UInt8 := 128 :: List.replicate (noughts n) 0 ++ size8 n
def sha (s : List UInt8) : List UInt8 := out8 (runB ((s.length + 72) / 64) H0 (s ++ padding s.length))

theorem shl24 (a b c d : Nat) (_ : a < 256) (hb : b < 256) (hc : c < 256) (hd : d < 256) : (a * 16777216 ||| b * 65536 ||| c * 256 ||| d) = a * 16777216 + b * 65536 + c * 256 + d := by
  have h1 : a * 16777216 ||| b * 65536 = a * 16777216 + b * 65536 := by
    have := Nat.two_pow_add_eq_or_of_lt (i := 24) (b := b * 65536) (by omega) a
    rw [show a * 16777216 = 2 ^ 24 * a by omega]; omega
  have h2 : (a * 16777216 + b * 65536) ||| c * 256 = a * 16777216 + b * 65536 + c * 256 := by
    have := Nat.two_pow_add_eq_or_of_lt (i := 16) (b := c * 256) (by omega) (a * 256 + b)
    rw [show a * 16777216 + b * 65536 = 2 ^ 16 * (a * 256 + b) by omega]; omega
  have h3 : (a * 16777216 + b * 65536 + c * 256) ||| d = a * 16777216 + b * 65536 + c * 256 + d := by
    have := Nat.two_pow_add_eq_or_of_lt (i := 8) (b := d) (by omega) (a * 65536 + b * 256 + c)
    rw [show a * 16777216 + b * 65536 + c * 256 = 2 ^ 8 * (a * 65536 + b * 256 + c) by omega]; omega
  rw [h1, h2, h3]
theorem word_go (a b c d : UInt8) : Go.bits .or .u32 (Go.bits .or .u32 (Go.bits .or .u32 ((a.toNat : Int) % 4294967296 * 16777216 % 4294967296) ((b.toNat : Int) % 4294967296 * 65536 % 4294967296)) ((c.toNat : Int) % 4294967296 * 256 % 4294967296)) ((d.toNat : Int) % 4294967296) = V (word a b c d) := by
  have ha := a.toNat_lt; have hb := b.toNat_lt; have hc := c.toNat_lt; have hd := d.toNat_lt
  have h1 := shl24 a.toNat b.toNat c.toNat d.toNat ha hb hc hd
  have o1 : (a.toNat * 16777216 ||| b.toNat * 65536) < 2 ^ 32 := Nat.or_lt_two_pow (by omega) (by omega)
  have o2 : (a.toNat * 16777216 ||| b.toNat * 65536 ||| c.toNat * 256) < 2 ^ 32 := Nat.or_lt_two_pow o1 (by omega)
  rw [show ((a.toNat : Int) % 4294967296 * 16777216 % 4294967296) = ((a.toNat * 16777216 : Nat) : Int) by omega, show ((b.toNat : Int) % 4294967296 * 65536 % 4294967296) = ((b.toNat * 65536 : Nat) : Int) by omega,
    show ((c.toNat : Int) % 4294967296 * 256 % 4294967296) = ((c.toNat * 256 : Nat) : Int) by omega, show ((d.toNat : Int) % 4294967296) = (d.toNat : Int) by omega,
    u32_or_nat _ _ (by omega) (by omega), u32_or_nat _ _ (by omega) (by omega), u32_or_nat _ _ (by omega) (by omega), h1]
  unfold word
  rw [V_of]; congr 1; omega

theorem wordAt_eq (b : List UInt8) (k : Nat) (h : 4 * k + 3 < b.length) : wordAt b k = word b[4 * k] b[4 * k + 1] b[4 * k + 2] b[4 * k + 3] := by
  unfold wordAt
  simp only [List.getD_eq_getElem?_getD]
  rw [List.getElem?_eq_getElem (by omega), List.getElem?_eq_getElem (by omega), List.getElem?_eq_getElem (by omega), List.getElem?_eq_getElem (by omega)]
  rfl
theorem sched_length (b : List UInt8) (n : Nat) : (sched b n).length = n := by
  induction n with
  | zero => rfl
  | succ n ih => simp [sched, ih]
theorem sched_get (b : List UInt8) {n i : Nat} (h : i < n) (m : Nat) (hm : i < m) : (sched b n).getD i 0 = (sched b m).getD i 0 := by
  have key : ∀ k, (sched b (i + 1 + k)).getD i 0 = (sched b (i + 1)).getD i 0 := by
    intro k
    induction k with
    | zero => rfl
    | succ k ih =>
      rw [← ih, show i + 1 + (k + 1) = (i + 1 + k) + 1 by omega]
      simp only [sched, List.getD_eq_getElem?_getD]
      rw [List.getElem?_append_left (by rw [sched_length]; omega)]
  rw [show n = i + 1 + (n - (i + 1)) by omega, show m = i + 1 + (m - (i + 1)) by omega, key, key]
/-- the j-th word -/
def WW (b : List UInt8) (j : Nat) : UInt32 := (sched b 64).getD j 0
theorem WW_eq (b : List UInt8) {j n : Nat} (hj : j < n) (h64 : j < 64) : (sched b n).getD j 0 = WW b j := sched_get b hj 64 h64
theorem sched_last (b : List UInt8) (n : Nat) : (sched b (n + 1)).getD n 0 = if n < 16 then wordAt b n else nextW (sched b n) n := by
  simp only [sched, List.getD_eq_getElem?_getD]
  rw [List.getElem?_append_right (by rw [sched_length]; omega), sched_length, Nat.sub_self]; rfl
theorem WW_first (b : List UInt8) {n : Nat} (h : n < 16) : WW b n = wordAt b n := by
  rw [← WW_eq b (Nat.lt_succ_self n) (by omega), sched_last, if_pos h]
theorem WW_next (b : List UInt8) {n : Nat} (h : 16 ≤ n) (h64 : n < 64) : WW b n = WW b (n - 16) + sig0 (WW b (n - 15)) + WW b (n - 7) + sig1 (WW b (n - 2)) := by
  rw [← WW_eq b (Nat.lt_succ_self n) (by omega), sched_last, if_neg (by omega)]
  unfold nextW
  rw [WW_eq b (by omega) (by omega), WW_eq b (by omega) (by omega), WW_eq b (by omega) (by omega), WW_eq b (by omega) (by omega)]
theorem runB_add (m n : Nat) (h : S8) (l : List UInt8) : runB (m + n) h l = runB n (runB m h l) (l.drop (64 * m)) := by
  induction m generalizing h l with
  | zero => simp [runB]
  | succ m ih =>
    rw [show m + 1 + n = (m + n) + 1 by omega]
    simp only [runB]
    rw [ih, List.drop_drop]
    congr 2; omega
theorem runB_app (n : Nat) (h : S8) (l m : List UInt8) (hn : 64 * n ≤ l.length) : runB n h (l ++ m) = runB n h l := by
  induction n generalizing h l with
  | zero => rfl
  | succ n ih =>
    simp only [runB]
    rw [List.take_append_of_le_length (by omega), List.drop_append_of_le_length (by omega), ih _ _ (by simp; omega)]

theorem out8_length (v : S8) : (out8 v).length = 32 := rfl
theorem sha_length (s : List UInt8) : (sha s).length = 32 := rfl
theorem sha_abc : sha [97, 98, 99] = [0xba, 0x78, 0x16, 0xbf, 0x8f, 0x01, 0xcf, 0xea, 0x41, 0x41, 0x40, 0xde, 0x5d, 0xae, 0x22, 0x23, 0xb0, 0x03, 0x61, 0xa3, 0x96, 0x17, 0x7a, 0x9c, 0xb4, 0x10, 0xff, 0x61, 0xf2, 0x00, 0x15, 0xad] := by
  decide +kernel
end Go.Proofs.Ytgohhhfnffhgmaa.Plain
