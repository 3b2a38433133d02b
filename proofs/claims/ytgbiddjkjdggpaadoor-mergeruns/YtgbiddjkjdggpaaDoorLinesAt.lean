/- Slices of texts for the library's functions; merge.Lines, with the block told. -/
import Derived.Test.YtgbiddjkjdggpaaDoorConcat
import Derived.Test.YtgbiddjkjdggpaaDoorTwo
import Derived.Test.YtgbiddjkjdggpaaDoorPlainUnion
namespace Go.Proofs.YtgbiddjkjdggpaaDoor
open Go.RowKit Plain

theorem cell_block {w w' : World} {p : Addr} (h : w'.heap[p.block]? = w.heap[p.block]?) : w'.cell? p = w.cell? p := by
  unfold World.cell?
  rw [h]
theorem Reads.gb {w w' : World} {size n b : Nat} {r : Option Nat} {xs : List Value} (h : Reads w size (some ⟨b, 0, none⟩) n xs) (hg : w.grownBy w' r) (hne : r ≠ some b) : Reads w' size (some ⟨b, 0, none⟩) n xs :=
  ⟨h.1, fun hn => by
    obtain ⟨ad, e, hc⟩ := h.2 hn
    refine ⟨ad, e, fun j u hu => ?_⟩
    have h1 := hc j u hu
    injection e with e
    have hb := World.block_lt_of_cell? _ _ h1
    rw [← h1]
    refine cell_block (hg.block _ hb ?_)
    rw [block_of_add, ← e]
    exact Ne.symm hne⟩
theorem strs_at0 {w : World} {b : Nat} {l : List (List UInt8)} {k : Nat} (h : Reads w 1 (some ⟨b, 0, none⟩) l.length (strs l)) (hk : k < l.length) : w.cell? ⟨b, k, none⟩ = some (.string ⟨(l[k]).toArray⟩) := by
  obtain ⟨ad, e, hc⟩ := h.str_at hk
  injection e with e
  subst e
  rw [show (⟨b, 0, none⟩ : Addr).add k = ⟨b, k, none⟩ by unfold Addr.add; split <;> simp_all] at hc
  exact hc
theorem toB_cells {w : World} {b : Nat} {l : List (List UInt8)} (h : Reads w 1 (some ⟨b, 0, none⟩) l.length (strs l)) : ∀ j, j < (l.map toB).length → w.cell? ⟨b, 0 + j, none⟩ = some (.string ((l.map toB).getD j ByteArray.empty)) := by
  intro j hj
  have hj' : j < l.length := by simpa using hj
  rw [Nat.zero_add, strs_at0 h hj']
  simp [List.getD, hj', toB]
theorem strs_toB (l : List (List UInt8)) : (l.map toB).map Value.string = strs l := by simp [strs, strV, toB]

theorem Clone_strs (b c : Nat) (l : List (List UInt8)) (w : World) (h : Reads w 1 (some ⟨b, 0, none⟩) l.length (strs l)) (hl : l.length ≤ 4294967296) :
    Calls Tryd.prog 23 #[.slice (some ⟨b, 0, none⟩) l.length c] w (OwnOut w l) := by
  refine (Tryd.slices_Clone_string b 0 l.length c (l.map toB) w (by simp) (by omega) (toB_cells h)).mono ?_
  rintro e w1 ⟨v, rfl, h1, _, h2⟩
  rw [List.take_of_length_le (by simp), strs_toB] at h1
  exact ⟨v, rfl, h1, h2⟩
theorem Contains_strs (b c : Nat) (l : List (List UInt8)) (s : List UInt8) (w : World) (h : Reads w 1 (some ⟨b, 0, none⟩) l.length (strs l)) (hl : l.length ≤ 4294967296) :
    Calls Tryd.prog 21 #[.slice (some ⟨b, 0, none⟩) l.length c, .string ⟨s.toArray⟩] w fun e w' => e = .returned (.bool (hasL l s)) ∧ w' = w := by
  have hg := Tryd.slices_Contains_string b 0 l.length c (l.map toB) ⟨s.toArray⟩ w (by simp) (by omega) (toB_cells h)
  rw [List.take_of_length_le (by simp)] at hg
  exact hg
theorem HasSuffix_nl (s : List UInt8) (w : World) (hs : s.length ≤ 9223372036854775807) :
    Calls Tryd.prog 24 #[.string ⟨s.toArray⟩, .string ⟨#[10]⟩] w fun e w' => e = .returned (.bool (Lib.hasSuffix s [10])) ∧ w' = w :=
  Tryd.strings_HasSuffix ⟨s.toArray⟩ ⟨#[10]⟩ w (by simpa [ByteArray.size] using hs)

set_option maxHeartbeats 1000000 in
theorem Lines_at (s : List UInt8) (m : Int) (w : World) (hs : s.length < 4294967281) (hm : w.cell? ⟨0, 0, none⟩ = some (.int .i64 m)) :
    Calls Tryd.prog 13 #[.string ⟨s.toArray⟩] w fun e w' => ∃ c, e = .returned (.slice (some ⟨w.heap.size, 0, none⟩) (linesL s).length c) ∧ (linesL s).length ≤ c ∧ c ≤ maxLen ∧ Reads w' 1 (some ⟨w.heap.size, 0, none⟩) (linesL s).length (strs (linesL s)) ∧ Below w.heap.size w w' ∧ w.heap.size < w'.heap.size := by
  have hg := SplitAfter_any s 10 m w hs hm
  obtain ⟨d, q, hdq⟩ := cutAt_last 10 [10] s
  have hll : linesL s = d ++ if q = [] then [] else [q] := by unfold linesL; rw [hdq, trimLast_snoc]
  have hlen := cutAt_length 10 [10] s
  have hcc : s.count 10 ≤ s.length := List.count_le_length
  rw [hdq] at hg hlen
  have hl1 : (d ++ [q]).length = d.length + 1 := by simp
  have hr := laid_strs w (d ++ [q]) 9
  rw [hl1] at hg hr hlen
  have hq : (w.alloc (.cells (strs (d ++ [q])).toArray 9)).cell? ⟨w.heap.size, d.length, none⟩ = some (.string ⟨q.toArray⟩) := by
    rw [cell_of_row _ _ _ _ 9 (0, 0) (heap_alloc_new w _)]
    simp [strs, strV]
  have HG := Lib.hid hg
  have HLL := Lib.hid hll
  have HR := Lib.hid hr
  have hdl : d.length ≤ s.length := by omega
  have hsz : w.heap.size < (w.alloc (.cells (strs (d ++ [q])).toArray 9)).heap.size := by simp
  generalize hW : w.alloc (.cells (strs (d ++ [q])).toArray 9) = W at *
  have hB : Below w.heap.size w W := by rw [← hW]; exact (Below.refl _ _).alloc (Nat.le_refl _) _
  clear hg hll hr hlen hdq hcc hl1 hW
  by_cases hq0 : q = []
  · subst hq0
    go_enter Tryd.func13, Tryd.ntmps13
    go_wp2_with (fail)
    refine HG.out.mono ?_
    rintro e w1 ⟨rfl, rfl⟩
    go_wp2_with (fail)
    go_ret
    refine ⟨d.length + 1, ?_, ?_, ?_, ?_, hB, hsz⟩
    · rw [HLL.out]; simp
    · rw [HLL.out]; simp
    · unfold maxLen; omega
    · rw [HLL.out]
      have := HR.out.take (k := d.length) (by omega)
      simpa [strs] using this
  · have hqb : q.isEmpty = false := by cases q <;> simp_all
    have HQ0 := Lib.hid hq0
    clear hq0
    go_enter Tryd.func13, Tryd.ntmps13
    go_wp2_with (fail)
    refine HG.out.mono ?_
    rintro e w1 ⟨rfl, rfl⟩
    go_wp2_with (fail)
    go_ret
    have hll : linesL s = d ++ [q] := by rw [HLL.out, if_neg HQ0.out]
    refine ⟨d.length + 1, ?_, ?_, ?_, ?_, hB, hsz⟩
    · rw [hll]; simp
    · rw [hll]; simp
    · unfold maxLen; omega
    · rw [hll]
      simpa using HR.out
end Go.Proofs.YtgbiddjkjdggpaaDoor
