import Derived.Test.YtpkdnhkmoojplaaLine5
namespace Go.Proofs.Ytpkdnhkmoojplaa
open Go.RowKit Plain
theorem info_string : (Try.prog.info? 9).map (fun i => (i.zero, i.size, i.bytes)) = some (some (.string ⟨#[]⟩), 1, 16) := by kernel_rfl

set_option maxHeartbeats 1000000 in
theorem Read_any (s : List UInt8) (w : World) (hs : s.length ≤ 35184372088832) (hk : (readL 0 s).1.length < 4294967295) :
    Calls Try.prog 11 #[.string ⟨s.toArray⟩] w fun e w' => ∃ v, e = .returned (.tuple #[v, .int .i64 (readL 0 s).2]) ∧ IsStrs w' v (readL 0 s).1 ∧ Below w.heap.size w w' := by
  obtain ⟨i0, hi, hz0, hz1, hz2⟩ := info_parts info_string
  go_enter Try.func11, Try.ntmps11
  go_wp2_with (fail)
  go_loopw [5, 6, 7] (fun t5 _ _ wr => ∃ (r : List UInt8) (acc : List (List UInt8)), r.length + 12 * acc.length ≤ s.length ∧ acc ++ (readL acc.length r).1 = (readL 0 s).1 ∧ (readL acc.length r).2 = (readL 0 s).2 ∧
      wr.heap[w.heap.size]? = some (.cells #[.string ⟨r.toArray⟩, .int .i64 acc.length] 55 (0, 0)) ∧ wr.ownsRow (w.heap.size + 1) 9 1 t5 acc.length (strs acc) ∧ Below w.heap.size w wr)
    (fun _ _ _ wr => match wr.cell? ⟨w.heap.size, 0, none⟩ with | some (.string b) => b.size | _ => 0)
  case atStart => exact ⟨s, [], by simp, rfl, rfl, heap_alloc_new w _, World.ownsRow_nil _ _ _ _, (Below.refl _ _).alloc (Nat.le_refl _) _⟩
  case round =>
    obtain ⟨r, acc, hr, h1, h2, hbk, hown, hb⟩ := hrel
    have c0 : wr.cell? ⟨w.heap.size, 0, none⟩ = some (.string ⟨r.toArray⟩) := cell_of_row wr _ 0 _ _ _ hbk
    have H1 := Lib.hid h1
    have H2 := Lib.hid h2
    have HBK := Lib.hid hbk
    have hszr := World.block_lt_of_cell? _ _ c0
    simp only at hszr
    clear h1 h2 hbk
    by_cases hnil : r = []
    · subst hnil
      go_wp2_with (fail)
      go_ret2
      have h1 := H1.out
      have h2 := H2.out
      rw [read_nil] at h1 h2
      refine ⟨u5, ?_, ?_, hb⟩
      · rw [← h2]
        rfl
      · rw [← h1]
        simpa [IsStrs] using IsSlice.of_own hown
    · have hne : (!r.isEmpty) = true := by simpa using hnil
      have hne2 : r.isEmpty = false := by simpa using hnil
      have hkk : acc.length < 4294967295 := by
        have := congrArg List.length H1.out
        rw [List.length_append] at this
        omega
      have hfr := frame_any w.heap.size acc.length r wr HBK.out hkk (by omega)
      cases ht : takeFrame acc.length r with
      | none =>
        go_wp2_with (fail)
        refine hfr.mono ?_
        intro e w1 hR
        unfold FrameR at hR
        rw [ht] at hR
        obtain ⟨rfl, hg⟩ := hR
        go_wp2_with (fail)
        go_ret2
        have h1 := H1.out
        have h2 := H2.out
        rw [read_none hnil ht] at h1 h2
        refine ⟨u5, ?_, ?_, below_gb hb (by omega) hg (Nat.le_refl _)⟩
        · rw [← h2]
          rfl
        · rw [← h1]
          simpa [IsStrs] using IsSlice.of_own (own_gb hown hg (by omega))
      | some x =>
        obtain ⟨p, r'⟩ := x
        have htl := tf_len ht
        go_wp2_with (fail)
        refine hfr.mono ?_
        intro e w1 hR
        unfold FrameR at hR
        rw [ht] at hR
        obtain ⟨rfl, hg, hbk'⟩ := hR
        go_wp2_with (at_builtin; refine wpList_append_own _ rfl _ _ 22 rfl (w.heap.size + 1) 9 i0 _ 1 16 Try.underlying22 hi hz0 hz1 hz2 rfl (by decide) _ _ _ rfl ((own_gb hown hg (by omega)).alloc _) ⟨w1.heap.size, 0, none⟩ 1 1 [.string ⟨p.toArray⟩] rfl rfl (laid_one _ _ _) (one_oneCell rfl) ?c3 ?c4 ?c5 ?_)
        case c3 => unfold maxLen; omega
        case c4 => omega
        case c5 => have := hb.size; have := hg.size; simp; omega
        intro v' w2 hown2 hg2 _
        have hbk2 : w2.heap[w.heap.size]? = some (.cells #[.string ⟨r'.toArray⟩, .int .i64 ((acc.length + 1 : Nat) : Int)] 55 (0, 0)) := by
          rw [hg2.block w.heap.size (by have := hg.size; simp; omega) (fun h => by have := ((own_gb hown hg (by omega)).lt _ h.symm).1; omega)]
          rw [Below.heap_alloc w1 _ _ (by have := hg.size; omega)]
          exact hbk'
        go_wp2_with (fail)
        go_roundw
        case rel =>
          have h1 := H1.out
          have h2 := H2.out
          rw [read_some ht] at h1 h2
          have hown1 := own_gb hown hg (by omega : w.heap.size < w.heap.size + 1)
          refine ⟨r', acc ++ [p], by simp; omega, by rw [List.append_assoc, List.length_append]; exact h1, by rw [List.length_append]; exact h2, by rw [List.length_append]; exact hbk2, by rw [strs_append, List.length_append]; exact hown2, ?_⟩
          exact ((below_gb hb (by omega) hg (Nat.le_refl _)).alloc (by have := hb.size; have := hg.size; omega) _).grown hg2 (by have := hb.size; have := hg.size; simp; omega) (fun k hk => by have := (hown1.lt k hk).1; omega)
        case measure =>
          rw [cell_of_row w2 _ 0 _ _ _ hbk2, c0]
          simp [ByteArray.size]; omega
end Go.Proofs.Ytpkdnhkmoojplaa
