/- The weak sum and one byte on, by the document. -/
import Derived.Test.YtgohhhfnffhgmaaHashWeak
import Derived.Test.YtgohhhfnffhgmaaWords
namespace Go.Proofs.Ytgohhhfnffhgmaa
open Go.RowKit Plain

theorem wB_take (s : List UInt8) (k : Nat) (h : k < s.length) (n : Nat) (_hn : n = s.length) : ∃ q : Nat, wA (s.take (k + 1)) = wA (s.take k) + s[k].toNat ∧ q = (n - k) * s[k].toNat := ⟨_, by rw [List.take_succ_eq_append_getElem h, wA_snoc], rfl⟩

/-- the sum of the sums, as the document reckons it: of the first k bytes of n -/
def wC (n : Nat) : Nat → List UInt8 → Nat
  | _, [] => 0
  | k, c :: l => (n - k) * c.toNat + wC n (k + 1) l
theorem wC_all (n : Nat) : ∀ (l : List UInt8) (k : Nat), k + l.length = n → wC n k l = wB l := by
  intro l
  induction l with
  | nil => intro k _; rfl
  | cons c l ih =>
    intro k h
    simp only [List.length_cons] at h
    simp only [wC, wB, ih (k + 1) (by omega)]
    rw [show n - k = l.length + 1 by omega]
theorem wC_snoc (n : Nat) : ∀ (l : List UInt8) (k : Nat) (c : UInt8), wC n k (l ++ [c]) = wC n k l + (n - (k + l.length)) * c.toNat := by
  intro l
  induction l with
  | nil => intro k c; simp [wC]
  | cons d l ih =>
    intro k c
    simp only [List.cons_append, wC, ih, List.length_cons]
    rw [show k + 1 + l.length = k + (l.length + 1) by omega]; omega

theorem mod_step (X p q : Nat) : (X + p * q) % 65536 = (X % 65536 + p % 65536 * q) % 65536 := by
  have h : p * q = p % 65536 * q + 65536 * (p / 65536 * q) := by
    conv => lhs; rw [← Nat.mod_add_div p 65536, Nat.add_mul, Nat.mul_assoc]
  rw [h]
  generalize p % 65536 * q = a
  generalize p / 65536 * q = b
  omega

theorem tmod_cases (n : Int) : (n.tmod 65536 < 0 ∧ n.tmod 65536 + 65536 = n % 65536) ∨ (0 ≤ n.tmod 65536 ∧ n.tmod 65536 = n % 65536) := by
  rw [Int.tmod_eq_emod]
  split
  · right; omega
  · rename_i h
    have h2 : ¬ (65536 : Int) ∣ n := fun e => h (.inr e)
    left
    omega

set_option maxHeartbeats 400000 in
theorem Weak_ref (s : List UInt8) (w : World) (hs : s.length ≤ 9223372036854775807) :
    Calls Try.prog 21 #[.string ⟨s.toArray⟩] w (Ret w (.int .u32 (weak s : Nat))) := by
  go_enter Try.func21, Try.ntmps21
  go_wp2_with (fail)
  go_loop [3, 4, 5] (fun t3 t4 t5 => ∃ k : Nat, k ≤ s.length ∧ t5 = .int .i64 k ∧ t3 = .int .i64 ((wA (s.take k) % 65536 : Nat) : Int) ∧ t4 = .int .i64 ((wC s.length 0 (s.take k) % 65536 : Nat) : Int)) (fun _ _ t5 => s.length - (intOf t5).toNat)
  case atStart => exact ⟨0, by omega, rfl, rfl, rfl⟩
  case round =>
    obtain ⟨k, hk, rfl, rfl, rfl⟩ := hrel
    by_cases hlt : k < s.length
    · have h1 := wA_snoc (s.take k) s[k]
      have h2 := wC_snoc s.length (s.take k) 0 s[k]
      rw [← List.take_succ_eq_append_getElem hlt] at h1 h2
      rw [List.length_take, Nat.min_eq_left (by omega), Nat.zero_add] at h2
      have hc := s[k].toNat_lt
      have hx := Nat.mod_lt (wA (s.take k)) (show 0 < 65536 by omega)
      have hy := Nat.mod_lt (wC s.length 0 (s.take k)) (show 0 < 65536 by omega)
      have f1 : wA (s.take (k + 1)) % 65536 = (wA (s.take k) % 65536 + s[k].toNat) % 65536 := by omega
      have f2 : wC s.length 0 (s.take (k + 1)) % 65536 = (wC s.length 0 (s.take k) % 65536 + (s.length - k) % 65536 * s[k].toNat) % 65536 := by
        rw [h2]; exact mod_step _ _ _
      generalize wA (s.take k) % 65536 = a at *
      generalize wC s.length 0 (s.take k) % 65536 = b at *
      generalize hci : s[k] = c at *
      have hm := Nat.mod_lt (s.length - k) (show 0 < 65536 by omega)
      have em : ((s.length : Int) - k) % 65536 = (((s.length - k) % 65536 : Nat) : Int) := by omega
      generalize (s.length - k) % 65536 = m at *
      have hp : m * c.toNat ≤ 65535 * 255 := Nat.mul_le_mul (by omega) (by omega)
      have hp2 : (m : Int) * (c.toNat : Int) = ((m * c.toNat : Nat) : Int) := by push_cast; rfl
      generalize m * c.toNat = p at *
      have F1 := Lib.hid f1
      have F2 := Lib.hid f2
      clear h1 h2 f1 f2
      go_wp2_with (fail)
      go_round
      case rel => exact ⟨k + 1, by omega, by go_num, by rw [F1.out]; first | rfl | (congr 1; omega), by rw [F2.out]; first | rfl | (congr 1; omega)⟩
      case measure => simp [intOf]; omega
    · obtain rfl : k = s.length := by omega
      rw [List.take_of_length_le (Nat.le_refl _), wC_all _ s 0 (by omega)]
      have hx := Nat.mod_lt (wA s) (show 0 < 65536 by omega)
      have hy := Nat.mod_lt (wB s) (show 0 < 65536 by omega)
      have hw : weak s = wA s % 65536 + 65536 * (wB s % 65536) := rfl
      generalize wA s % 65536 = a at *
      generalize wB s % 65536 = b at *
      have HW := Lib.hid hw
      clear hw
      go_wp2_with (fail)
      go_ret
      exact ⟨ret_int (by rw [HW.out]; omega), Below.refl _ _⟩

end Go.Proofs.Ytgohhhfnffhgmaa
