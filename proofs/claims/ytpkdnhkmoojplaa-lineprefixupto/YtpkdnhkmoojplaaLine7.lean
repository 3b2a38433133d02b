/- The document's reader of a line. -/
import Derived.Test.YtpkdnhkmoojplaaLine6
namespace Go.Proofs.Ytpkdnhkmoojplaa
open Go.RowKit Plain
namespace Plain
theorem tf_none {k : Nat} {s : List UInt8} (h : 1048576 < num s ∨ s.length < 12 + num s) : takeFrame k s = none := by
  cases ht : takeFrame k s with
  | none => rfl
  | some x =>
    obtain ⟨p, r⟩ := x
    obtain ⟨rfl, hp⟩ := frame_of_tf ht
    rw [num_frame _ _ _ hp, List.length_append, frame_length] at h
    omega
theorem tf_same {k : Nat} {s : List UInt8} (hn : num s ≤ 1048576) (h : frame k ((s.drop 12).take (num s)) = s.take (12 + num s)) :
    takeFrame k s = some ((s.drop 12).take (num s), s.drop (12 + num s)) := by
  have hs : s = frame k ((s.drop 12).take (num s)) ++ s.drop (12 + num s) := by rw [h, List.take_append_drop]
  conv => lhs; rw [hs]
  exact tf_frame _ _ _ (by simp; omega)
theorem tf_other {k : Nat} {s : List UInt8} (h : frame k ((s.drop 12).take (num s)) ≠ s.take (12 + num s)) : takeFrame k s = none := by
  cases ht : takeFrame k s with
  | none => rfl
  | some x =>
    obtain ⟨p, r⟩ := x
    obtain ⟨rfl, hp⟩ := frame_of_tf ht
    rw [num_frame _ _ _ hp, frame_drop12, List.take_left' rfl, List.take_left' (frame_length _ _)] at h
    exact absurd rfl h
theorem read_step {r p r' : List UInt8} {acc L : List (List UInt8)} {e : Nat} (ht : takeFrame acc.length r = some (p, r')) (h1 : acc ++ (readL acc.length r).1 = L) (h2 : (readL acc.length r).2 = e) :
    acc ++ [p] ++ (readL (acc ++ [p]).length r').1 = L ∧ (readL (acc ++ [p]).length r').2 = e := by
  rw [read_some ht] at h1 h2
  rw [List.append_assoc, List.length_append]
  exact ⟨h1, h2⟩
end Plain

set_option maxHeartbeats 2000000 in
theorem Read_ref (s : List UInt8) (w : World) (hs : s.length ≤ 35184372088832) (hk : (readL 0 s).1.length < 4294967295) :
    Calls Try.prog 12 #[.string ⟨s.toArray⟩] w fun e w' => ∃ v, e = .returned (.tuple #[v, .int .i64 (readL 0 s).2]) ∧ IsStrs w' v (readL 0 s).1 ∧ Below w.heap.size w w' := by
  obtain ⟨i0, hi, hz0, hz1, hz2⟩ := info_parts info_string
  go_enter Try.func12, Try.ntmps12
  go_wp2_with (fail)
  go_loopw [0, 4, 5, 6, 7] (fun t0 t4 _ _ _ wr => ∃ (r : List UInt8) (acc : List (List UInt8)), t0 = .string ⟨r.toArray⟩ ∧ r.length + 12 * acc.length ≤ s.length ∧ acc ++ (readL acc.length r).1 = (readL 0 s).1 ∧ (readL acc.length r).2 = (readL 0 s).2 ∧
      wr.ownsRow w.heap.size 9 1 t4 acc.length (strs acc) ∧ Below w.heap.size w wr)
    (fun t0 _ _ _ _ _ => match t0 with | .string b => b.size | _ => 0)
  case atStart => exact ⟨s, [], rfl, by simp, rfl, rfl, World.ownsRow_nil _ _ _ _, Below.refl _ _⟩
  case round =>
    obtain ⟨r, acc, rfl, hr, h1, h2, hown, hb⟩ := hrel
    have H1 := Lib.hid h1
    have H2 := Lib.hid h2
    clear h1 h2
    by_cases hnil : r = []
    · subst hnil
      go_wp2_with (fail)
      go_ret2
      have h1 := H1.out
      have h2 := H2.out
      rw [read_nil] at h1 h2
      refine ⟨u4, ?_, ?_, hb⟩
      · rw [← h2]
        rfl
      · rw [← h1]
        simpa [IsStrs] using IsSlice.of_own hown
    · have hne : (!r.isEmpty) = true := by simpa using hnil
      have hne2 : r.isEmpty = false := by simpa using hnil
      have hkk : acc.length < 4294967295 := by
        have := congrArg List.length H1.out
        rw [List.length_append] at this
        omega
      have hno : takeFrame acc.length r = none → (readL 0 s).2 = 150 ∧ (readL 0 s).1 = acc := by
        intro ht
        have h1 := H1.out
        have h2 := H2.out
        rw [read_none hnil ht] at h1 h2
        exact ⟨h2.symm, by rw [← h1]; simp⟩
      have HNO := Lib.hid hno
      clear hno
      rcases Nat.lt_or_ge r.length 12 with h12 | h12
      · go_wp2_with (fail)
        go_ret2
        have h := HNO.out (tf_short h12)
        refine ⟨u4, ?_, ?_, hb⟩
        · rw [h.1]
          rfl
        · rw [h.2]
          simpa [IsStrs] using IsSlice.of_own hown
      go_wp2_with (fail)
      have HNIL := Lib.hid hnil
      clear hnil hne hne2
      obtain ⟨x0, x1, x2, x3, q, rfl⟩ := four_cases (by omega : 4 ≤ r.length)
      have h0 : 0 < (x0 :: x1 :: x2 :: x3 :: q).length := by omega
      have h1 : (1 : Int) < (x0 :: x1 :: x2 :: x3 :: q).length := by omega
      have h2 : (2 : Int) < (x0 :: x1 :: x2 :: x3 :: q).length := by omega
      have h3 : (3 : Int) < (x0 :: x1 :: x2 :: x3 :: q).length := by omega
      have ha : (x0.toNat : Int) < 256 := by have := x0.toNat_lt; omega
      have hb' : (x1.toNat : Int) < 256 := by have := x1.toNat_lt; omega
      have hc' : (x2.toNat : Int) < 256 := by have := x2.toNat_lt; omega
      have hd : (x3.toNat : Int) < 256 := by have := x3.toNat_lt; omega
      have hn : (x0.toNat : Int) * 16777216 + x1.toNat * 65536 + x2.toNat * 256 + x3.toNat = (num (x0 :: x1 :: x2 :: x3 :: q) : Nat) := by simp [num]
      have HN := Lib.hid hn
      clear hn
      go_quiet (fail)
      rw [HN.out]
      clear HN h0 h1 h2 h3 ha hb' hc' hd
      generalize hq : x0 :: x1 :: x2 :: x3 :: q = r at *
      have HQ := Lib.hid hq
      clear hq
      have hbW := below_drewN hb nq
      have hownW := own_below hown (below_drewN (Below.refl wr.heap.size wr) nq)
      generalize wr.drewN nq = W at *
      clear hb hown
      have hn4 := num_lt r
      by_cases hbig : 1048576 < num r
      · have hB : ((1048576 : Int) < (num r : Nat)) := by omega
        go_wp2_with (fail)
        go_ret2
        have h := HNO.out (tf_none (.inl hbig))
        refine ⟨u4, ?_, ?_, hbW⟩
        · rw [h.1]
          rfl
        · rw [h.2]
          simpa [IsStrs] using IsSlice.of_own hownW
      have hB : ¬ ((1048576 : Int) < (num r : Nat)) := by omega
      by_cases hshort : r.length < 12 + num r
      · have hB2 : ((r.length : Int) - 12 < (num r : Nat)) := by omega
        go_wp2_with (fail)
        go_ret2
        have h := HNO.out (tf_none (.inr hshort))
        refine ⟨u4, ?_, ?_, hbW⟩
        · rw [h.1]
          rfl
        · rw [h.2]
          simpa [IsStrs] using IsSlice.of_own hownW
      have hB2 : ¬ ((r.length : Int) - 12 < (num r : Nat)) := by omega
      obtain ⟨A4, c4, rfl, _, _, hrd4⟩ := IsSlice.of_own hownW
      clear hrd4
      have hpl : ((r.drop 12).take (num r)).length ≤ 1048576 := by simp; omega
      have hB3 : (12 : Int) + (num r : Nat) ≤ r.length := by omega
      go_wp2_with (fail)
      refine (More_ref acc.length _ _ hpl (by omega)).mono ?_
      rintro e w1 ⟨rfl, hb1⟩
      have hownW1 := own_below hownW hb1
      have hbW1 := hbW.trans (hb1.mono hbW.size)
      have hwsz := Nat.le_trans hbW.size hb1.size
      generalize hF : frame acc.length ((r.drop 12).take (num r)) = F
      have HF := Lib.hid hF
      clear hF hownW
      go_wp2_with (first | (at_builtin; refine wpList_append_own _ rfl _ _ 22 rfl w.heap.size 9 i0 _ 1 16 Try.underlying22 hi hz0 hz1 hz2 rfl (by decide) _ _ _ rfl (hownW1.alloc _) ⟨w1.heap.size, 0, none⟩ 1 1 [.string ⟨((r.drop 12).take (num r)).toArray⟩] rfl rfl (laid_one _ _ _) (one_oneCell rfl) ?c3 ?c4 ?c5 ?_) | fail)
      · have hne : (!F == r.take (12 + num r)) = true := by assumption
        go_ret2
        have h := HNO.out (tf_other (by rw [HF.out]; simpa using hne))
        refine ⟨.slice A4 acc.length c4, ?_, ?_, hbW1⟩
        · rw [h.1]
          rfl
        · rw [h.2]
          simpa [IsStrs] using IsSlice.of_own hownW1
      · unfold maxLen; omega
      · omega
      · simp; omega
      · have hne : (!F == r.take (12 + num r)) = false := by assumption
        have ht := tf_same (k := acc.length) (s := r) (by omega) (by rw [HF.out]; simpa using hne)
        have HT := Lib.hid ht
        clear ht
        intro v' w2 hown2 hg2 _
        go_wp2_with (fail)
        go_roundw
        case rel =>
          have h := read_step HT.out H1.out H2.out
          have hl : (r.drop (12 + num r)).length + 12 * (acc ++ [(r.drop 12).take (num r)]).length ≤ s.length := by
            rw [List.length_drop, List.length_append, List.length_singleton]
            omega
          refine ⟨r.drop (12 + num r), acc ++ [(r.drop 12).take (num r)], rfl, hl, h.1, h.2, by rw [strs_append, List.length_append]; exact hown2, ?_⟩
          exact (hbW1.alloc hwsz _).grown hg2 (by simp; omega) (fun k hk => (hownW1.lt k hk).1)
        case measure =>
          rw [HQ.out]
          simp only [ByteArray.size, List.size_toArray, List.length_drop]
          omega
end Go.Proofs.Ytpkdnhkmoojplaa
