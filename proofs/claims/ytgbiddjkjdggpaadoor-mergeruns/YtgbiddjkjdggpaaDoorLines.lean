/- merge.Lines, hawserref17.Lines. -/
import Derived.Test.YtgbiddjkjdggpaaDoorGenSplit
namespace Go.Proofs.YtgbiddjkjdggpaaDoor
open Go.RowKit Plain

/-- a []string that reads as l; old memory as it was -/
def StrsOut (w : World) (l : List (List UInt8)) (e : Ending) (w' : World) : Prop := ∃ A c, e = .returned (.slice A l.length c) ∧ l.length ≤ c ∧ c ≤ maxLen ∧ Reads w' 1 A l.length (strs l) ∧ Below w.heap.size w w' ∧ (A = none → c = 0)

theorem of_own0 {w : World} {base : Nat} {e : TypeId} {size n : Nat} {v : Value} {xs : List Value} (h : w.ownsRow base e size v n xs) : ∃ A c, v = .slice A n c ∧ n ≤ c ∧ c ≤ maxLen ∧ Reads w size A n xs ∧ (A = none → c = 0) := by
  obtain ⟨A, c, rfl, h1, h2, h3⟩ := IsSlice.of_own h
  refine ⟨A, c, rfl, h1, h2, h3, fun e => ?_⟩
  subst e
  rcases h.2 with ⟨hv, h0⟩ | ⟨g, cap, cur, hv, _⟩
  · injection hv
  · injection hv with e1
    cases e1

theorem laid_strs (w : World) (l : List (List UInt8)) (e : TypeId) : Reads (w.alloc (.cells (strs l).toArray e)) 1 (some ⟨w.heap.size, 0, none⟩) l.length (strs l) :=
  ⟨by rw [strs_length]; omega, fun _ => ⟨_, rfl, fun j u hj => by
    rw [show (⟨w.heap.size, 0, none⟩ : Addr).add j = ⟨w.heap.size, j, none⟩ by unfold Addr.add; split <;> simp_all, cell_of_row _ _ _ (strs l).toArray e (0, 0) (heap_alloc_new w _)]
    simpa using hj⟩⟩

theorem SplitAfter_any (s : List UInt8) (c : UInt8) (m : Int) (w : World) (hs : s.length < 4294967281) (hm : w.cell? ⟨0, 0, none⟩ = some (.int .i64 m)) :
    Calls Tryd.prog 22 #[.string ⟨s.toArray⟩, .string ⟨#[c]⟩] w fun e w' =>
      e = .returned (.slice (some ⟨w.heap.size, 0, none⟩) (cutAt c [c] s).length (cutAt c [c] s).length) ∧ w' = w.alloc (.cells (strs (cutAt c [c] s)).toArray 9) := by
  have hg := genSplit_cut s c 1 m w (by omega) hs hm
  rw [if_pos rfl] at hg
  have HG := Lib.hid hg
  clear hg hm
  go_enter Tryd.func22, Tryd.ntmps22
  go_wp2_with (fail)
  refine HG.out.mono ?_
  rintro e w1 ⟨rfl, rfl⟩
  go_wp2_with (fail)
  go_ret
  exact ⟨rfl, rfl⟩

set_option maxHeartbeats 1000000 in
theorem Lines_any (s : List UInt8) (m : Int) (w : World) (hs : s.length < 4294967281) (hm : w.cell? ⟨0, 0, none⟩ = some (.int .i64 m)) :
    Calls Tryd.prog 13 #[.string ⟨s.toArray⟩] w (StrsOut w (linesL s)) := by
  have hg := SplitAfter_any s 10 m w hs hm
  obtain ⟨d, q, hdq⟩ := cutAt_last 10 [10] s
  have hll : linesL s = d ++ if q = [] then [] else [q] := by unfold linesL; rw [hdq, trimLast_snoc]
  have hlen := cutAt_length 10 [10] s
  have hcc : s.count 10 ≤ s.length := List.count_le_length
  rw [hdq] at hg hlen
  have hl1 : (d ++ [q]).length = d.length + 1 := by simp
  have hr := laid_strs w (d ++ [q]) 9
  rw [hl1] at hg hr hlen
  have hq : (w.alloc (.cells (strs (d ++ [q])).toArray 9)).cell? ⟨w.heap.size, d.length, none⟩ = some (.string ⟨q.toArray⟩) := by
    rw [cell_of_row _ _ _ _ 9 (0, 0) (heap_alloc_new w _)]
    simp [strs, strV]
  have HG := Lib.hid hg
  have HLL := Lib.hid hll
  have HR := Lib.hid hr
  have hdl : d.length ≤ s.length := by omega
  generalize hW : w.alloc (.cells (strs (d ++ [q])).toArray 9) = W at *
  have hB : Below w.heap.size w W := by rw [← hW]; exact (Below.refl _ _).alloc (Nat.le_refl _) _
  clear hg hll hr hlen hdq hcc hl1 hW
  by_cases hq0 : q = []
  · subst hq0
    have e1 : IntKind.i64.wrap ((d.length : Int) + 1 - 1) = d.length := by rw [show (d.length : Int) + 1 - 1 = d.length by omega]; exact IntWalk.i64_in _ (by omega)
    clear e1
    go_enter Tryd.func13, Tryd.ntmps13
    go_wp2_with (fail)
    refine HG.out.mono ?_
    rintro e w1 ⟨rfl, rfl⟩
    go_wp2_with (fail)
    go_ret
    refine ⟨some ⟨w.heap.size, 0, none⟩, d.length + 1, ?_, ?_, ?_, ?_, hB, fun e => by cases e⟩
    · rw [HLL.out]; simp
    · rw [HLL.out]; simp
    · unfold maxLen; omega
    · rw [HLL.out]
      have := HR.out.take (k := d.length) (by omega)
      simpa [strs] using this
  · have hqb : q.isEmpty = false := by cases q <;> simp_all
    have HQ0 := Lib.hid hq0
    clear hq0
    go_enter Tryd.func13, Tryd.ntmps13
    go_wp2_with (fail)
    refine HG.out.mono ?_
    rintro e w1 ⟨rfl, rfl⟩
    go_wp2_with (fail)
    go_ret
    have hll : linesL s = d ++ [q] := by rw [HLL.out, if_neg HQ0.out]
    refine ⟨some ⟨w.heap.size, 0, none⟩, d.length + 1, ?_, ?_, ?_, ?_, hB, fun e => by cases e⟩
    · rw [hll]; simp
    · rw [hll]; simp
    · unfold maxLen; omega
    · rw [hll]
      simpa using HR.out

/-- the document's lines, i bytes on -/
theorem info_string : (Tryd.prog.info? 9).map (fun i => (i.zero, i.size, i.bytes)) = some (some (.string ByteArray.empty), 1, 16) := by kernel_rfl

set_option maxHeartbeats 1000000 in
theorem Lines_ref (s : List UInt8) (w : World) (hs : s.length ≤ 8796093022207) :
    Calls Tryd.prog 14 #[.string ⟨s.toArray⟩] w (StrsOut w (linesL s)) := by
  obtain ⟨i0, hi, hz0, hz1, hz2⟩ := info_parts info_string
  go_enter Tryd.func14, Tryd.ntmps14
  go_wp2_with (fail)
  go_loopw [3, 4, 5] (fun t3 t4 t5 W => ∃ (i f : Nat) (d : List (List UInt8)), i ≤ s.length ∧ f ≤ i ∧ d.length ≤ i ∧ t5 = .int .i64 i ∧ t4 = .int .i64 f ∧ W.ownsRow w.heap.size 9 1 t3 d.length (strs d) ∧ Hid (cutAt 10 [10] (s.take i) = d ++ [(s.take i).drop f]) ∧ Hid (Below w.heap.size w W)) (fun _ _ t5 _ => s.length - (intOf t5).toNat)
  case atStart => exact ⟨0, 0, [], by omega, by omega, by simp, rfl, rfl, World.ownsRow_nil _ _ _ _, Lib.hid (by simp [cutAt]), Lib.hid (Below.refl _ _)⟩
  case round =>
    obtain ⟨i, f, d, hi1, hf, hd, rfl, rfl, hown, HC, HB⟩ := hrel
    have hsw := HB.out.size
    by_cases hlt : i < s.length
    · have hsn := cutAt_snoc 10 [10] s[i] _ _ _ HC.out
      rw [← List.take_succ_eq_append_getElem hlt] at hsn
      have hdr : (s.take (i + 1)).drop f = (s.take i).drop f ++ [s[i]] := by
        rw [List.take_succ_eq_append_getElem hlt, List.drop_append_of_le_length (by simp; omega)]
      have hcut : (s.drop f).take (i + 1 - f) = (s.take (i + 1)).drop f := by rw [List.drop_take]
      generalize hc : s[i] = c at *
      have HDR := Lib.hid hdr
      have HCUT := Lib.hid hcut
      have hi0 : (0 : Int) ≤ i := by omega
      clear hdr hcut
      by_cases h10 : c = 10
      · rw [if_pos h10, ← h10, ← HDR.out] at hsn
        have HSN := Lib.hid hsn
        have hB : ((c.toNat : Int) == 10) = true := by rw [h10]; rfl
        have HC10 := Lib.hid h10
        clear hsn h10
        generalize hpp : (s.drop f).take (i + 1 - f) = p at HCUT
        go_wp2_with (at_builtin; refine wpList_append_own _ rfl _ _ 32 rfl w.heap.size 9 i0 _ 1 16 Tryd.underlying32 hi hz0 hz1 hz2 rfl (by decide) _ _ _ rfl (hown.alloc _) ⟨wr.heap.size, 0, none⟩ 1 1 [.string ⟨p.toArray⟩] rfl rfl (laid_one _ _ _) (one_oneCell rfl) ?c3 ?c4 ?c5 ?_)
        case c3 => unfold maxLen; omega
        case c4 => omega
        case c5 => simp; omega
        intro v1 w1 hown1 hg1 _
        have hb1 : Below w.heap.size w w1 := (HB.out.alloc hsw _).grown hg1 (by simp; omega) (fun k hk => (hown.lt k hk).1)
        have hown2 : w1.ownsRow w.heap.size 9 1 v1 (d ++ [p]).length (strs (d ++ [p])) := by
          rw [strs_append, List.length_append]; exact hown1
        have HB1 := Lib.hid hb1
        have HPP := Lib.hid hpp
        clear hg1 hb1 hown1 hpp
        go_wp2_with (fail)
        go_roundw
        case rel =>
          refine ⟨i + 1, i + 1, d ++ [p], by omega, by omega, by simp; omega, by go_num, by go_num, hown2, ?_, HB1⟩
          have h1 := HSN.out
          rw [← HCUT.out, HC10.out] at h1
          refine Lib.hid (h1.trans ?_)
          rw [List.drop_eq_nil_of_le (by simp; omega)]; simp
        case measure => simp [intOf]; omega
      · rw [if_neg h10, ← HDR.out] at hsn
        have HSN := Lib.hid hsn
        have hB : ((c.toNat : Int) == 10) = false := by
          simp only [beq_eq_false_iff_ne, ne_eq]
          intro e; exact h10 (UInt8.toNat.inj (by simp; omega))
        clear hsn h10
        go_wp2_with (fail)
        go_roundw
        case rel => exact ⟨i + 1, f, d, by omega, by omega, by omega, by go_num, rfl, hown, HSN, HB⟩
        case measure => simp [intOf]; omega
    · have hi' : i = s.length := by omega
      have hcs := HC.out
      rw [hi', List.take_of_length_le (Nat.le_refl _)] at hcs
      have hll : linesL s = d ++ if s.drop f = [] then [] else [s.drop f] := by unfold linesL; rw [hcs, trimLast_snoc]
      have HLL := Lib.hid hll
      clear hcs hll hi'
      by_cases hfs : f < s.length
      · have hne : s.drop f ≠ [] := by
          intro e
          have := congrArg List.length e
          simp at this; omega
        have HNE := Lib.hid hne
        clear hne
        go_wp2_with (at_builtin; refine wpList_append_own _ rfl _ _ 32 rfl w.heap.size 9 i0 _ 1 16 Tryd.underlying32 hi hz0 hz1 hz2 rfl (by decide) _ _ _ rfl (hown.alloc _) ⟨wr.heap.size, 0, none⟩ 1 1 [.string ⟨(s.drop f).toArray⟩] rfl rfl (laid_one _ _ _) (one_oneCell rfl) ?e3 ?e4 ?e5 ?_)
        case e3 => unfold maxLen; omega
        case e4 => omega
        case e5 => simp; omega
        intro v1 w1 hown1 hg1 _
        have hb1 : Below w.heap.size w w1 := (HB.out.alloc hsw _).grown hg1 (by simp; omega) (fun k hk => (hown.lt k hk).1)
        have hown2 : w1.ownsRow w.heap.size 9 1 v1 (d ++ [s.drop f]).length (strs (d ++ [s.drop f])) := by
          rw [strs_append, List.length_append]; exact hown1
        obtain ⟨A, c, rfl, hc, hm, hr, hA0⟩ := of_own0 hown2
        have hll : linesL s = d ++ [s.drop f] := by rw [HLL.out, if_neg HNE.out]
        have HL2 := Lib.hid hll
        have HR := Lib.hid hr
        clear hg1 hown1 hown2 hll hr
        go_wp2_with (fail)
        go_ret
        exact ⟨A, c, by rw [HL2.out]; rfl, by rw [HL2.out]; exact hc, hm, by rw [HL2.out]; exact HR.out, hb1, hA0⟩
      · obtain ⟨A, c, rfl, hc, hm, hr, hA0⟩ := of_own0 hown
        have hll : linesL s = d := by rw [HLL.out, if_pos (List.drop_eq_nil_of_le (by omega))]; simp
        have HL2 := Lib.hid hll
        have HR := Lib.hid hr
        clear hown hll hr
        go_wp2_with (fail)
        go_ret
        exact ⟨A, c, by rw [HL2.out]; rfl, by rw [HL2.out]; exact hc, hm, by rw [HL2.out]; exact HR.out, HB.out, hA0⟩
end Go.Proofs.YtgbiddjkjdggpaaDoor
