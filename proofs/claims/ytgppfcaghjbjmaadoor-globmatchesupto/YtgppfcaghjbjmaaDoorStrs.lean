/- Lists of texts that are handed back; strings.Split at one byte. -/
import Derived.Test.YtgppfcaghjbjmaaDoorGenSplit
namespace Go.Proofs.YtgppfcaghjbjmaaDoor
open Go.RowKit Plain

/-- a []string that reads as l; old memory as it was -/
def StrsOut (w : World) (l : List (List UInt8)) (e : Ending) (w' : World) : Prop := ∃ A c, e = .returned (.slice A l.length c) ∧ l.length ≤ c ∧ c ≤ maxLen ∧ Reads w' 1 A l.length (strs l) ∧ Below w.heap.size w w' ∧ (A = none → c = 0)

theorem of_own0 {w : World} {base : Nat} {e : TypeId} {size n : Nat} {v : Value} {xs : List Value} (h : w.ownsRow base e size v n xs) : ∃ A c, v = .slice A n c ∧ n ≤ c ∧ c ≤ maxLen ∧ Reads w size A n xs ∧ (A = none → c = 0) := by
  obtain ⟨A, c, rfl, h1, h2, h3⟩ := IsSlice.of_own h
  refine ⟨A, c, rfl, h1, h2, h3, fun e => ?_⟩
  subst e
  rcases h.2 with ⟨hv, h0⟩ | ⟨g, cap, cur, hv, _⟩
  · injection hv
  · injection hv with e1
    cases e1

theorem laid_strs (w : World) (l : List (List UInt8)) (e : TypeId) : Reads (w.alloc (.cells (strs l).toArray e)) 1 (some ⟨w.heap.size, 0, none⟩) l.length (strs l) :=
  ⟨by rw [strs_length]; omega, fun _ => ⟨_, rfl, fun j u hj => by
    rw [show (⟨w.heap.size, 0, none⟩ : Addr).add j = ⟨w.heap.size, j, none⟩ by unfold Addr.add; split <;> simp_all, cell_of_row _ _ _ (strs l).toArray e (0, 0) (heap_alloc_new w _)]
    simpa using hj⟩⟩
theorem info_string : (Tryd.prog.info? 9).map (fun i => (i.zero, i.size, i.bytes)) = some (some (.string ByteArray.empty), 1, 16) := by kernel_rfl

theorem strSplit_any (s : List UInt8) (c : UInt8) (m : Int) (w : World) (hs : s.length < 4294967281) (hm : w.cell? ⟨0, 0, none⟩ = some (.int .i64 m)) :
    Calls Tryd.prog 21 #[.string ⟨s.toArray⟩, .string ⟨#[c]⟩] w (StrsOut w (cutAt c [] s)) := by
  have hg := genSplit_cut s c 0 m w (by omega) hs hm
  rw [if_neg (by decide)] at hg
  have hlen := cutAt_length c [] s
  have hcc : s.count c ≤ s.length := List.count_le_length
  have hle : (cutAt c [] s).length ≤ maxLen := by unfold maxLen; omega
  have hr := laid_strs w (cutAt c [] s) 9
  generalize cutAt c [] s = l at *
  have HG := Lib.hid hg
  have HR := Lib.hid hr
  clear hg hm hr hlen
  go_enter Tryd.func21, Tryd.ntmps21
  go_wp2_with (fail)
  refine HG.out.mono ?_
  rintro e w1 ⟨rfl, rfl⟩
  go_wp2_with (fail)
  go_ret
  exact ⟨_, _, rfl, Nat.le_refl _, hle, HR.out, (Below.refl _ _).alloc (Nat.le_refl _) _, fun e => by cases e⟩
end Go.Proofs.YtgppfcaghjbjmaaDoor
