/- What both sides have done: (*In).Done, same. -/
import Derived.Test.YtknoedlelmflhaaMux6
import Derived.Test.YtknoedlelmflhaaShelf
import Derived.Deep.MidRow
namespace Go.Proofs.Ytknoedlelmflhaa
open Go.RowKit Plain

theorem intV_get {l : List Nat} {k : Nat} (hk : k < l.length) : (intV l)[k]? = some (.int .i64 (l[k] : Nat)) := by simp [intV, hk]

set_option maxRecDepth 100000 in
set_option maxHeartbeats 1000000 in
theorem same_any (A B : Option Addr) (c c2 : Nat) (l : List Nat) (w : World) (h1 : Reads w 1 A l.length (intV l)) (h2 : Reads w 1 B l.length (intV l)) (hl : l.length ≤ 2000000) :
    Calls Try.prog 23 #[.slice A l.length c, .slice B l.length c2] w (Ret w (.bool true)) := by
  have H1 := Lib.hid h1
  have H2 := Lib.hid h2
  clear h1 h2
  go_enter Try.func23, Try.ntmps23
  go_wp2_with (fail)
  go_loopw [5, 13] (fun _ t13 W => ∃ k : Nat, k ≤ l.length ∧ t13 = .int .i64 (k : Nat) ∧ Below w.heap.size w W) (fun _ t13 _ => l.length - (intOf t13).toNat)
  case atStart => exact ⟨0, by omega, rfl, Below.refl _ _⟩
  case round =>
    obtain ⟨k, hk, rfl, hb⟩ := hrel
    by_cases hlt : k < l.length
    · obtain ⟨ad, u1, rfl, hu1, hc1⟩ := (H1.out.below hb).at_ hlt
      obtain ⟨bd, u2, rfl, hu2, hc2⟩ := (H2.out.below hb).at_ hlt
      rw [intV_get hlt] at hu1 hu2
      injection hu1 with hu1
      injection hu2 with hu2
      subst hu1 hu2
      have hkl : decide ((k : Int) < (l.length : Nat)) = true := decide_eq_true (by omega)
      go_wp2_with (fail)
      go_quiet (fail)
      go_wp2_with (fail)
      go_roundw
      case rel => exact ⟨k + 1, by omega, by go_num, below_drewN hb _⟩
      case measure => simp [intOf]; omega
    · obtain rfl : k = l.length := by omega
      have hkl : decide ((l.length : Int) < (l.length : Nat)) = false := decide_eq_false (by omega)
      go_wp2_with (fail)
      go_ret
      exact ⟨rfl, hb⟩

section
variable {S : Nat → Prop} {base bi n : Nat} {r : Rcv}
set_option maxRecDepth 100000 in
set_option maxHeartbeats 1000000 in
theorem Done_any (w : World) (h : InAt S base bi r n w) (hn : n ≤ 1048576) :
    Calls Try.prog 24 #[.pointer (some ⟨bi, 0, none⟩)] w fun e w' => ∃ B c, e = .returned (.slice B r.d.length c) ∧ Reads w' 1 B r.d.length (intV r.d) ∧ Below w.heap.size w w' := by
  obtain ⟨m, Pb, v, h⟩ := h
  obtain ⟨c0, c1⟩ := h.facts
  have hown := h.own
  have hfew := h.few
  have key : Calls Try.prog 33 #[v] w fun e w' => ∃ B c, e = .returned (.slice B r.d.length c) ∧ Reads w' 1 B r.d.length (intV r.d) ∧ Below w.heap.size w w' := by
    rcases hown.2 with ⟨hv, h0⟩ | ⟨g, cap, cur, hv, -⟩
    · subst hv
      refine (Try.slices_Clone_int_nil 0 0 w).mono ?_
      rintro e w1 ⟨rfl, rfl⟩
      rw [h0]
      have : intV r.d = [] := by rw [List.eq_nil_of_length_eq_zero h0]; rfl
      rw [this]
      exact ⟨none, 0, rfl, Reads.nil _ _ _, Below.refl _ _⟩
    · subst hv
      have hc : ∀ j, j < (r.d.map fun i => ((i : Nat) : Int)).length → w.cell? ⟨g, 0 + j, none⟩ = some (.int .i64 ((r.d.map fun i => ((i : Nat) : Int)).getD j 0)) := fun j hj => by
        have hj' : j < r.d.length := by simpa using hj
        have := hown.cells (g := g) rfl j _ (intV_get hj')
        simpa [hj', Addr.add_mid] using this
      refine (Try.slices_Clone_int g 0 r.d.length cap (r.d.map fun i => ((i : Nat) : Int)) w (by simp) (by omega) hc).mono ?_
      rintro e w1 ⟨v', rfl, ho, -, hb⟩
      have e1 : ((r.d.map fun i => ((i : Nat) : Int)).take r.d.length).map (Value.int .i64) = intV r.d := by
        rw [List.take_of_length_le (by simp)]; simp [intV]
      rw [e1] at ho
      obtain ⟨B, c, rfl, -, -, hR⟩ := IsSlice.of_own ho
      exact ⟨B, c, rfl, hR, hb⟩
  clear hown h
  go_enter Try.func24, Try.ntmps24
  go_wp2_with (fail)
  refine key.mono ?_
  rintro e w1 ⟨B, c, rfl, hR, hb⟩
  go_wp2_with (fail)
  go_ret
  exact ⟨B, c, rfl, hR, hb⟩
end
end Go.Proofs.Ytknoedlelmflhaa
