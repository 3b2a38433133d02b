/- Plain laws of the fingerprint's last part: the bits' number, the padding, the result's bytes. -/
import Derived.Test.YtgohhhfnffhgmaaPlainSha
namespace Go.Proofs.Ytgohhhfnffhgmaa.Plain

theorem size8_length (n : Nat) : (size8 n).length = 8 := by simp [size8]
theorem size8_go (n i : Nat) (hi : i < 8) : ((n : Int) * 8 / 2 ^ (56 - 8 * i)) % 256 = (((size8 n).getD i 0).toNat : Int) := by
  have h1 : (size8 n).getD i 0 = UInt8.ofNat (n * 8 / 2 ^ (56 - 8 * i)) := by
    simp [size8, List.getD_eq_getElem?_getD, hi]
  rw [h1, UInt8.toNat_ofNat']
  rw [Int.natCast_emod, Int.natCast_ediv, Int.natCast_mul, Int.natCast_pow]
  rfl
theorem sha_tail (s : List UInt8) : ∃ m, (s.drop (64 * (s.length / 64)) ++ 128 :: (List.replicate (noughts s.length) 0 ++ size8 s.length)).length = 64 * m ∧
    sha s = out8 (runB m (runB (s.length / 64) H0 s) (s.drop (64 * (s.length / 64)) ++ 128 :: (List.replicate (noughts s.length) 0 ++ size8 s.length))) := by
  have hn : noughts s.length = (119 - s.length % 64) % 64 := rfl
  have hlen : (s.drop (64 * (s.length / 64)) ++ 128 :: (List.replicate (noughts s.length) 0 ++ size8 s.length)).length = s.length - 64 * (s.length / 64) + (1 + (noughts s.length + 8)) := by
    simp [size8_length]; omega
  refine ⟨(s.length + 72) / 64 - s.length / 64, by rw [hlen]; omega, ?_⟩
  unfold sha
  rw [show (s.length + 72) / 64 = s.length / 64 + ((s.length + 72) / 64 - s.length / 64) by omega, runB_add, runB_app _ _ _ _ (by omega), List.drop_append_of_le_length (by omega)]
  rw [show s.length / 64 + ((s.length + 72) / 64 - s.length / 64) - s.length / 64 = (s.length + 72) / 64 - s.length / 64 by omega]
  rfl
end Go.Proofs.Ytgohhhfnffhgmaa.Plain
