/- Opening of arguments: an array of bytes. -/
import Derived.Test.YtjihemiofnhleaaOpen
namespace Go.Proofs.Ytjihemiofnhleaa
open Go.ChangeShapes Go.WideShapes Go.ChangeAt Go.RowKit

section
variable {H : Type} {enc : TypeId × Value → H} {P : Program} {w : World} {base : Nat} {held : Bool} {spare : Nat → Bool}

theorem okWide_array {r : Reach} {b0 n : Nat} {t e : TypeId} {v : Value} (ht : P.underlying t = some (.array n e)) (h : Value.okWide P w r b0 t v) : ∃ cs : Array Value, v = .agg cs ∧ cs.size = P.cellsOf t := by
  simp only [Value.okWide, ht] at h
  obtain ⟨cs, h1, h2, _⟩ := h
  exact ⟨cs, h1, h2⟩

theorem open_byteArr {r : Reach} {b0 n : Nat} {t e : TypeId} {v : Value} {d : DataW H} {p : List MemPlace} (ht : P.underlying t = some (.array n e)) (he : P.underlying e = some (.int .u8)) (hc : P.cellsOf e = 1) (hn : P.cellsOf t = n)
    (hv : Value.okWide P w r b0 t v) (h : DataW.Trod enc P w base spare held t v d p) : ∃ l : List UInt8, v = .agg (bytesV l).toArray ∧ l.length = n := by
  obtain ⟨cs, rfl, hsz⟩ := okWide_array ht hv
  obtain ⟨fuel, hf⟩ := h
  obtain ⟨xs, m, _, _, hl, hxs, hel⟩ := DataW.trod_array ht hf
  simp only [Value.cells] at hel hl
  rw [hc] at hel
  have key : ∀ k, k ≤ n → ∃ l : List UInt8, l.length = k ∧ cs.toList.take k = bytesV l := by
    intro k
    induction k with
    | zero => intro _; exact ⟨[], rfl, rfl⟩
    | succ k ih =>
      intro hk
      obtain ⟨l, hl1, hl2⟩ := ih (by omega)
      have hlt : k < cs.toList.length := by rw [hl, hn]; omega
      have h1 := hel k (by omega)
      rw [Nat.mul_one, List.getElem?_eq_getElem (by omega : k < xs.length)] at h1
      have h2 : (cs.toList.drop k).take 1 = [cs.toList[k]] := by rw [List.drop_eq_getElem_cons hlt]; rfl
      rw [h2] at h1
      obtain ⟨a, ea, _, ka⟩ := DataW.trod_int he h1
      simp only [List.cons.injEq, and_true] at ea
      have hb := bounds_u8 ka
      refine ⟨l ++ [UInt8.ofNat a.toNat], by simp [hl1], ?_⟩
      rw [List.take_succ_eq_append_getElem hlt, hl2, bytesV_append, ea]
      simp [bytesV]
      omega
  obtain ⟨l, h1, h2⟩ := key n (Nat.le_refl _)
  rw [List.take_of_length_le (by rw [hl, hn]; exact Nat.le_refl _)] at h2
  exact ⟨l, by rw [← h2], h1⟩
end
end Go.Proofs.Ytjihemiofnhleaa
