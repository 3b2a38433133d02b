/- Plain laws of the check sum: four bytes side by side that turn. No program in sight. -/
import Derived.Test.YtjihemiofnhleaaPlain05b
namespace Go.Proofs.Ytjihemiofnhleaa.Plain

theorem bits1_8_256 (k : Nat) : bits1 8 (256 * k) = k := by
  rw [show (8 : Nat) = 4 + 4 by rfl, bits1_add, show 256 * k = 16 * (16 * k) by omega, bits1_4_16, bits1_4_16]

theorem xor_swap4 (a b c d : Nat) : (a ^^^ b) ^^^ (c ^^^ d) = (a ^^^ c) ^^^ (b ^^^ d) := by
  rw [Nat.xor_assoc, ← Nat.xor_assoc b, Nat.xor_comm b c, Nat.xor_assoc c, ← Nat.xor_assoc]

theorem xor_lt24 {a b : Nat} (n : Nat) (ha : a < 2 ^ n) (hb : b < 2 ^ n) : a ^^^ b < 2 ^ n := Nat.xor_lt_two_pow ha hb

/-- a step back: what the states' difference was before a byte -/
theorem crcB_back {u v e : Nat} {c d : UInt8} (hu : u < 4294967296) (hv : v < 4294967296) (he : e < 16777216) (h : crcB u c ^^^ crcB v d = e) : u ^^^ v = (c.toNat ^^^ d.toNat) ^^^ 256 * e := by
  have hc := c.toNat_lt
  have hd := d.toNat_lt
  unfold crcB at h
  rw [← bits1_xor, xor_swap4, ← bits1_8_256 e] at h
  have hx : c.toNat ^^^ d.toNat < 256 := by have := xor_lt24 8 (a := c.toNat) (b := d.toNat) (by omega) (by omega); omega
  have h2 := bits1_inj 8 (xor_lt (xor_lt hu hv) (by omega)) (by omega) h
  have h3 : u ^^^ v = 256 * e ^^^ (c.toNat ^^^ d.toNat) := by rw [← h2, Nat.xor_assoc (u ^^^ v), Nat.xor_self, Nat.xor_zero]
  rw [h3, Nat.xor_comm]

theorem low_byte {x e : Nat} (hx : x < 256) (h : x ^^^ 256 * e = 0) : x = 0 ∧ e = 0 := by
  have h2 := xor_eq_zero h
  omega

/-- texts that differ in up to four bytes side by side have two check sums -/
theorem crc_four (p q : List UInt8) (c1 c2 c3 c4 d1 d2 d3 d4 : UInt8) (h : crc (p ++ (c1 :: c2 :: c3 :: c4 :: q)) = crc (p ++ (d1 :: d2 :: d3 :: d4 :: q))) : c1 = d1 ∧ c2 = d2 ∧ c3 = d3 ∧ c4 = d4 := by
  have h1 := xor_inj h
  unfold crcRun at h1
  rw [List.foldl_append, List.foldl_append] at h1
  have hv : p.foldl crcB 4294967295 < 4294967296 := foldl_crcB_lt p (by omega)
  generalize p.foldl crcB 4294967295 = v at *
  simp only [List.foldl_cons] at h1
  have a1 := crcB_lt hv c1; have b1 := crcB_lt hv d1
  have a2 := crcB_lt a1 c2; have b2 := crcB_lt b1 d2
  have a3 := crcB_lt a2 c3; have b3 := crcB_lt b2 d3
  have a4 := crcB_lt a3 c4; have b4 := crcB_lt b3 d4
  have h4 := foldl_inj q a4 b4 h1
  have x1 : c1.toNat ^^^ d1.toNat < 256 := by have := c1.toNat_lt; have := d1.toNat_lt; have := xor_lt24 8 (a := c1.toNat) (b := d1.toNat) (by omega) (by omega); omega
  have x2 : c2.toNat ^^^ d2.toNat < 256 := by have := c2.toNat_lt; have := d2.toNat_lt; have := xor_lt24 8 (a := c2.toNat) (b := d2.toNat) (by omega) (by omega); omega
  have x3 : c3.toNat ^^^ d3.toNat < 256 := by have := c3.toNat_lt; have := d3.toNat_lt; have := xor_lt24 8 (a := c3.toNat) (b := d3.toNat) (by omega) (by omega); omega
  have x4 : c4.toNat ^^^ d4.toNat < 256 := by have := c4.toNat_lt; have := d4.toNat_lt; have := xor_lt24 8 (a := c4.toNat) (b := d4.toNat) (by omega) (by omega); omega
  have k3 := crcB_back a3 b3 (e := 0) (by omega) (by rw [h4, Nat.xor_self])
  rw [Nat.mul_zero, Nat.xor_zero] at k3
  have k2 := crcB_back a2 b2 (by omega) k3
  have l2 := xor_lt24 16 (a := c3.toNat ^^^ d3.toNat) (b := 256 * (c4.toNat ^^^ d4.toNat)) (by omega) (by omega)
  have k1 := crcB_back a1 b1 (by omega) k2
  have l1 := xor_lt24 24 (a := c2.toNat ^^^ d2.toNat) (b := 256 * (c3.toNat ^^^ d3.toNat ^^^ 256 * (c4.toNat ^^^ d4.toNat))) (by omega) (by omega)
  have k0 := crcB_back hv hv (by omega) k1
  rw [Nat.xor_self] at k0
  obtain ⟨z1, k0⟩ := low_byte x1 k0.symm
  obtain ⟨z2, k0⟩ := low_byte x2 k0
  obtain ⟨z3, z4⟩ := low_byte x3 k0
  exact ⟨UInt8.toNat.inj (xor_eq_zero z1), UInt8.toNat.inj (xor_eq_zero z2), UInt8.toNat.inj (xor_eq_zero z3), UInt8.toNat.inj (xor_eq_zero z4)⟩
end Go.Proofs.Ytjihemiofnhleaa.Plain
