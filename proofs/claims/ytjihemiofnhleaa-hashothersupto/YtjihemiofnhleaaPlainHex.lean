/- Plain laws of the digits: no program in sight. -/
import Derived.Laws.BitsAllLaws
import Derived.Laws.BitsLemmas
namespace Go.Proofs.Ytjihemiofnhleaa.Plain

/-- The sixteen digits. -/
def digs : List UInt8 := [48, 49, 50, 51, 52, 53, 54, 55, 56, 57, 97, 98, 99, 100, 101, 102]
def hexB (c : UInt8) : List UInt8 := [digs.getD (c.toNat / 16) 0, digs.getD (c.toNat % 16) 0]
def hex (l : List UInt8) : List UInt8 := l.flatMap hexB
theorem hex_length (l : List UInt8) : (hex l).length = 2 * l.length := by
  induction l with
  | nil => rfl
  | cons c l ih => simp only [hex, List.flatMap_cons, List.length_append] at ih ⊢; simp only [hexB, List.length_cons, List.length_nil]; omega
theorem hex_snoc (l : List UInt8) (k : Nat) (h : k < l.length) : hex (l.take (k + 1)) = hex (l.take k) ++ hexB l[k] := by
  unfold hex
  rw [List.take_succ_eq_append_getElem h, List.flatMap_append]; simp
/-- the digits' places, as the program reckons them -/
theorem hex_go (c : UInt8) : ∃ (x y : Nat) (hx : x < digs.length) (hy : y < digs.length), x < 16 ∧ y < 16 ∧ (c.toNat : Int) / 16 = (x : Int) ∧ Go.bits .and .u8 (c.toNat : Int) 15 = (y : Int) ∧ (c.toNat : Int) % 16 = (y : Int) ∧ hexB c = [digs[x], digs[y]] := by
  have hc := c.toNat_lt
  refine ⟨c.toNat / 16, c.toNat % 16, by simp [digs]; omega, by simp [digs]; omega, by omega, by omega, by omega, ?_, by omega, ?_⟩
  · rw [show (15 : Int) = ((15 : Nat) : Int) by rfl, u8_and_nat _ _ hc (by omega)]
    have := Nat.and_two_pow_sub_one_eq_mod c.toNat 4
    simp at this
    rw [this]
  · simp only [hexB, List.getD_eq_getElem?_getD]
    rw [List.getElem?_eq_getElem, List.getElem?_eq_getElem]; rfl
end Go.Proofs.Ytjihemiofnhleaa.Plain
