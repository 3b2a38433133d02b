/- Plain laws of the table: the first primes, their roots. No program in sight. -/
import Derived.Test.YtgohhhfnffhgmaaPlainSha
import Derived.Test.YtgohhhfnffhgmaaPlainBig
namespace Go.Proofs.Ytgohhhfnffhgmaa.Plain

def PRIMES : List Nat := [2, 3, 5, 7, 11, 13, 17, 19, 23, 29, 31, 37, 41, 43, 47, 53, 59, 61, 67, 71, 73, 79, 83, 89, 97, 101, 103, 107, 109, 113, 127, 131, 137, 139, 149, 151, 157, 163, 167, 173, 179, 181, 191, 193, 197, 199, 211, 223, 227, 229, 233, 239, 241, 251, 257, 263, 269, 271, 277, 281, 283, 293, 307, 311]
/-- the roots, in so many 1/2^32 -/
def R2 : List Nat := [6074000999, 7439101573, 9603838834, 11363415354, 14244795007, 15485724812, 17708603819, 18721328409]
def R3 : List Nat := [5411319704, 6194414737, 7344290767, 8215976869, 9551921755, 10098905585, 11043570340, 11460697813, 12214315672, 13195500289, 13492127166, 14311783875, 14809980276, 15046980094, 15499789991, 16133124468, 16720292289, 16907126662, 17444216262, 17784676812, 17950125167, 18429019306, 18734950876, 19175934170, 19734090066, 20001703533, 20132865992, 20390182855, 20516441075, 20764397895, 21588763473, 21813078375, 22141143685, 22248366392, 22769593852, 22871018771, 23170020180, 23461497531, 23651862830, 23931792517, 24205322401, 24295138891, 24734567280, 24820601251, 24990902297, 25075189284, 25569408389, 26045227120, 26200031510, 26276752392, 26428864332, 26653801653, 26727943347, 27092625994, 27306805839, 27517677555, 27725365998, 27793908591, 27997534228, 28131656200, 28198240250, 28526537963, 28973835255, 29099129074]

/-- one number more is looked at -/
def sieve1 (l : List Nat) (p : Nat) : List Nat := if l.all (fun q => p % q != 0) then l ++ [p] else l
/-- n numbers from 2 on -/
def sieve : Nat → List Nat
  | 0 => []
  | n + 1 => sieve1 (sieve n) (n + 2)
theorem sieve_310 : sieve 310 = PRIMES := by decide +kernel
theorem sieve_309 : (sieve 309).length = 63 := by decide +kernel
theorem sieve_le (n k : Nat) : (sieve n).length ≤ (sieve (n + k)).length := by
  induction k with
  | zero => exact Nat.le_refl _
  | succ k ih =>
    refine Nat.le_trans ih ?_
    show _ ≤ (sieve1 (sieve (n + k)) (n + k + 2)).length
    unfold sieve1
    split <;> simp
theorem sieve_lt {n : Nat} (h : n < 310) : (sieve n).length < 64 := by
  have := sieve_le n (309 - n)
  rw [show n + (309 - n) = 309 by omega, sieve_309] at this
  omega
theorem sieve_pos (n : Nat) : ∀ q ∈ sieve n, 0 < q ∧ q < n + 2 := by
  induction n with
  | zero => intro q h; cases h
  | succ n ih =>
    intro q h
    unfold sieve sieve1 at h
    split at h
    · rcases List.mem_append.1 h with h | h
      · have := ih q h; omega
      · simp at h; omega
    · have := ih q h; omega

/-- below the root, and one more isn't -/
def Root (p k r : Nat) : Prop := r ^ k ≤ 4294967296 ^ k * p ∧ 4294967296 ^ k * p < (r + 1) ^ k
instance (p k r : Nat) : Decidable (Root p k r) := inferInstanceAs (Decidable (_ ∧ _))

def h0L : List UInt32 := [H0.a, H0.b, H0.c, H0.d, H0.e, H0.f, H0.g, H0.h]
theorem roots2 : ∀ i, i < 8 → Root (PRIMES.getD i 0) 2 (R2.getD i 0) ∧ R2.getD i 0 < 137438953472 ∧ R2.getD i 0 % 4294967296 = (h0L.getD i 0).toNat := by decide +kernel
theorem roots3 : ∀ i, i < 64 → Root (PRIMES.getD i 0) 3 (R3.getD i 0) ∧ R3.getD i 0 < 137438953472 ∧ R3.getD i 0 % 4294967296 = (KK.getD i 0).toNat := by decide +kernel
theorem primes_lt : ∀ i, i < 64 → PRIMES.getD i 0 < 4294967296 := by decide +kernel
end Go.Proofs.Ytgohhhfnffhgmaa.Plain
