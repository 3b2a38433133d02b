import Derived.Test.YtfddhhaecfjepaaRec3
import Derived.Test.YtfddhhaecfjepaaWords
namespace Go.Proofs.Ytfddhhaecfjepaa
open Go.RowKit Plain
theorem info_string : (Try.prog.info? 9).map (fun i => (i.zero, i.size, i.bytes)) = some (some (.string ⟨#[]⟩), 1, 16) := by kernel_rfl

set_option maxHeartbeats 400000 in
theorem All_any (s : List UInt8) (w : World)  (hs : s.length ≤ 35184372088832) :
    Calls Try.prog 11 #[.string ⟨s.toArray⟩] w fun e w' => ∃ v, e = .returned (.tuple #[v, .int .i64 (s.length - (all s).2.1.length : Nat), .int .i64 (all s).2.2]) ∧ IsStrs w' v (all s).1 ∧ Below w.heap.size w w' := by
  obtain ⟨i0, hi, hz0, hz1, hz2⟩ := info_parts info_string
  go_enter Try.func11, Try.ntmps11
  go_wp2_with (fail)
  go_loopw [5, 6, 7, 8, 9] (fun t5 t6 _ _ _ wr => ∃ (r : List UInt8) (acc : List (List UInt8)), t6 = .string ⟨r.toArray⟩ ∧ r.length + 8 * acc.length ≤ s.length ∧ acc ++ (all r).1 = (all s).1 ∧ (all r).2 = (all s).2 ∧
      wr.ownsRow w.heap.size 9 1 t5 acc.length (strs acc) ∧ Below w.heap.size w wr)
    (fun _ t6 _ _ _ _ => match t6 with | .string b => b.size | _ => 0)
  case atStart => exact ⟨s, [], rfl, by simp, rfl, rfl, World.ownsRow_nil _ _ _ _, Below.refl _ _⟩
  case round =>
    obtain ⟨r, acc, rfl, hr, h1, h2, hown, hb⟩ := hrel
    have H1 := Lib.hid h1
    have H2 := Lib.hid h2
    clear h1 h2
    by_cases hnil : r = []
    · subst hnil
      go_wp2_with (fail)
      go_ret3
      have h1 := H1.out
      have h2 := H2.out
      rw [all_nil] at h1 h2
      refine ⟨u5, ?_, ?_, hb⟩
      · rw [← h2]
        simp only [Array.getD_eq_getD_getElem?, List.getElem?_toArray, List.getElem?_cons_succ, List.getElem?_cons_zero, Option.getD_some]
        rfl
      · rw [← h1]
        simpa [IsStrs] using IsSlice.of_own hown
    · have hne : (!r.isEmpty) = true := by simpa using hnil
      have hne2 : r.isEmpty = false := by simpa using hnil
      by_cases he : (next r).2.2 = 0
      · have hB : (((next r).2.2 : Int) != 0) = false := by rw [he]; rfl
        have HE := Lib.hid he
        clear he
        go_wp2_with (fail)
        refine (Next_any r _ (by omega)).mono ?_
        rintro e w1 ⟨rfl, hb1⟩
        have hown1 := own_below hown hb1
        go_wp2_with (at_builtin; refine wpList_append_own _ rfl _ _ 28 rfl w.heap.size 9 i0 _ 1 16 Try.underlying28 hi hz0 hz1 hz2 rfl (by decide) _ _ _ rfl (hown1.alloc _) ⟨w1.heap.size, 0, none⟩ 1 1 [.string ⟨(next r).1.toArray⟩] rfl rfl (laid_one _ _ _) (one_oneCell rfl) ?c3 ?c4 ?c5 ?_)
        case c3 => unfold maxLen; omega
        case c4 => omega
        case c5 => have := hb.size; have := hb1.size; simp; omega
        intro v' w2 hown2 hg2 _
        go_wp2_with (fail)
        go_roundw
        case rel => 
          have hn := next_rest r HE.out
          have h1 := H1.out
          have h2 := H2.out
          rw [all_more hnil HE.out] at h1 h2
          exact ⟨(next r).2.1, acc ++ [(next r).1], rfl, by simp; omega, by rw [List.append_assoc]; exact h1, h2, by rw [strs_append, List.length_append]; exact hown2,
            below_appended (hb.trans (hb1.mono hb.size)) (Nat.le_trans hb.size hb1.size) hown1 _ hg2⟩
        case measure =>
          have hn := next_rest r HE.out
          simp [ByteArray.size]; omega
      · have hB : (((next r).2.2 : Int) != 0) = true := by simpa using (by omega : ((next r).2.2 : Int) ≠ 0)
        have HE := Lib.hid he
        clear he
        go_wp2_with (fail)
        refine (Next_any r _ (by omega)).mono ?_
        rintro e w1 ⟨rfl, hb1⟩
        go_wp2_with (fail)
        go_ret3
        have h1 := H1.out
        have h2 := H2.out
        rw [all_err hnil HE.out] at h1 h2
        have hown1 := own_below hown hb1
        refine ⟨u5, ?_, ?_, hb.trans (hb1.mono hb.size)⟩
        · rw [← h2]
          simp only [Array.getD_eq_getD_getElem?, List.getElem?_toArray, List.getElem?_cons_succ, List.getElem?_cons_zero, Option.getD_some]
          rw [Int.ofNat_sub (by omega)]
        · rw [← h1]
          simpa [IsStrs] using IsSlice.of_own hown1

set_option maxHeartbeats 400000 in
theorem All_ref (s : List UInt8) (w : World)  (hs : s.length ≤ 35184372088832) :
    Calls Try.prog 12 #[.string ⟨s.toArray⟩] w fun e w' => ∃ v, e = .returned (.tuple #[v, .int .i64 (s.length - (all s).2.1.length : Nat), .int .i64 (all s).2.2]) ∧ IsStrs w' v (all s).1 ∧ Below w.heap.size w w' := by
  obtain ⟨i0, hi, hz0, hz1, hz2⟩ := info_parts info_string
  go_enter Try.func12, Try.ntmps12
  go_wp2_with (fail)
  go_loopw [5, 6, 7, 8, 9] (fun t5 t6 _ _ _ wr => ∃ (k : Nat) (acc : List (List UInt8)), k ≤ s.length ∧ t6 = .int .i64 k ∧ (s.drop k).length + 8 * acc.length ≤ s.length ∧ acc ++ (all (s.drop k)).1 = (all s).1 ∧ (all (s.drop k)).2 = (all s).2 ∧
      wr.ownsRow w.heap.size 9 1 t5 acc.length (strs acc) ∧ Below w.heap.size w wr)
    (fun _ t6 _ _ _ _ => s.length - (intOf t6).toNat)
  case atStart => exact ⟨0, [], by omega, rfl, by simp, rfl, rfl, World.ownsRow_nil _ _ _ _, Below.refl _ _⟩
  case round =>
    obtain ⟨k, acc, hk, rfl, hr, h1, h2, hown, hb⟩ := hrel
    have H1 := Lib.hid h1
    have H2 := Lib.hid h2
    clear h1 h2
    by_cases hlt : k < s.length
    · have hnil : s.drop k ≠ [] := by simpa using hlt
      have hl : (s.drop k).length = s.length - k := by simp
      have HL := Lib.hid hl
      clear hl
      by_cases he : (next (s.drop k)).2.2 = 0
      · have hB : (((next (s.drop k)).2.2 : Int) != 0) = false := by rw [he]; rfl
        have hn := next_rest (s.drop k) he
        have HE := Lib.hid he
        clear he
        have HN := Lib.hid hn
        clear hn
        go_wp2_with (fail)
        refine (Next_ref (s.drop k) _ (by simp; omega)).mono ?_
        rintro e w1 ⟨rfl, hb1⟩
        generalize hrr : s.drop k = r at *
        have HR := Lib.hid hrr
        clear hrr
        have hl := HL.out
        have hl1 : r.length + k ≤ s.length := by omega
        have hl2 : s.length ≤ r.length + k := by omega
        clear hl
        have hlr : (next r).2.1.length ≤ s.length := by have := HN.out; omega
        have hown1 := own_below hown hb1
        go_wp2_with (at_builtin; refine wpList_append_own _ rfl _ _ 28 rfl w.heap.size 9 i0 _ 1 16 Try.underlying28 hi hz0 hz1 hz2 rfl (by decide) _ _ _ rfl (hown1.alloc _) ⟨w1.heap.size, 0, none⟩ 1 1 [.string ⟨(next r).1.toArray⟩] rfl rfl (laid_one _ _ _) (one_oneCell rfl) ?c3 ?c4 ?c5 ?_)
        case c3 => unfold maxLen; omega
        case c4 => omega
        case c5 => have := hb.size; have := hb1.size; simp; omega
        intro v' w2 hown2 hg2 _
        go_wp2_with (fail)
        go_roundw
        case rel =>
          have hn := HN.out
          have h1 := H1.out
          have h2 := H2.out
          rw [all_more hnil HE.out] at h1 h2
          have hd : s.drop (s.length - (next r).2.1.length) = (next r).2.1 := by
            have hx := next_suffix r HE.out
            have hrr := HR.out
            have : s.length - (next r).2.1.length = k + (r.length - (next r).2.1.length) := by omega
            rw [this, ← List.drop_drop, hrr]
            exact hx.symm
          exact ⟨s.length - (next r).2.1.length, acc ++ [(next r).1], by omega, by rw [Int.ofNat_sub hlr], by rw [hd]; simp; omega, by rw [hd, List.append_assoc]; exact h1, by rw [hd]; exact h2,
            by rw [strs_append, List.length_append]; exact hown2, below_appended (hb.trans (hb1.mono hb.size)) (Nat.le_trans hb.size hb1.size) hown1 _ hg2⟩
        case measure =>
          have hn := HN.out
          simp [intOf]; omega
      · have hB : (((next (s.drop k)).2.2 : Int) != 0) = true := by simpa using (by omega : ((next (s.drop k)).2.2 : Int) ≠ 0)
        have HE := Lib.hid he
        clear he
        go_wp2_with (fail)
        refine (Next_ref (s.drop k) _ (by simp; omega)).mono ?_
        rintro e w1 ⟨rfl, hb1⟩
        have hl := HL.out
        generalize s.drop k = r at *
        have hl1 : s.length - r.length = k := by omega
        have HL1 := Lib.hid hl1
        clear hl hl1
        go_wp2_with (fail)
        go_ret3
        have h1 := H1.out
        have h2 := H2.out
        rw [all_err hnil HE.out] at h1 h2
        have hown1 := own_below hown hb1
        refine ⟨u5, ?_, ?_, hb.trans (hb1.mono hb.size)⟩
        · rw [← h2]
          simp only [Array.getD_eq_getD_getElem?, List.getElem?_toArray, List.getElem?_cons_succ, List.getElem?_cons_zero, Option.getD_some]
          rw [HL1.out]
        · rw [← h1]
          simpa [IsStrs] using IsSlice.of_own hown1
    · obtain rfl : k = s.length := by omega
      go_wp2_with (fail)
      go_ret3
      have h1 := H1.out
      have h2 := H2.out
      rw [List.drop_length, all_nil] at h1 h2
      refine ⟨u5, ?_, ?_, hb⟩
      · rw [← h2]
        simp only [Array.getD_eq_getD_getElem?, List.getElem?_toArray, List.getElem?_cons_succ, List.getElem?_cons_zero, Option.getD_some]
        rfl
      · rw [← h1]
        simpa [IsStrs] using IsSlice.of_own hown
end Go.Proofs.Ytfddhhaecfjepaa
