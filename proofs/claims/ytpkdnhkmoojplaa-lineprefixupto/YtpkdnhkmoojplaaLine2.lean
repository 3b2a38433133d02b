/- line.Pack, what is carried: the program's and the document's. -/
import Derived.Test.YtpkdnhkmoojplaaLine1
namespace Go.Proofs.Ytpkdnhkmoojplaa
open Go.RowKit Plain

set_option maxHeartbeats 400000 in
theorem Pack_any (A : Option Addr) (c : Nat) (l : List (List UInt8)) (w : World) (hl : Reads w 1 A l.length (strs l)) (h63 : l.length ≤ 4294967295) (hsz : (frames 0 l).length ≤ 140737488355328) (hall : ∀ p ∈ l, p.length ≤ 9223372036854775807) :
    Calls Try.prog 7 #[.slice A l.length c] w (Ret w (.tuple #[.string ⟨(packL l).1.toArray⟩, .int .i64 (packL l).2])) := by
  have HALL := Lib.hid hall
  clear hall
  go_enter Try.func7, Try.ntmps7
  go_wp2_with (fail)
  go_loopw [5, 6, 7, 8, 11] (fun _ _ _ _ t11 wr => ∃ k : Nat, k ≤ l.length ∧ t11 = .int .i64 k ∧ (∀ p ∈ l.take k, p.length ≤ 1048576) ∧ Lib.IsBuilderF 45 5 w.heap.size w.heap.size (Lib.byteCells (frames 0 (l.take k))) wr ∧ Below w.heap.size w wr) (fun _ _ _ _ t11 _ => l.length - (intOf t11).toNat)
  case atStart => exact ⟨0, by omega, rfl, by simp, fresh_builder w, (Below.refl _ _).alloc (Nat.le_refl _) _⟩
  case round =>
    obtain ⟨k, hk, rfl, hok, hbl, hb⟩ := hrel
    by_cases hlt : k < l.length
    · obtain ⟨a, rfl, ca⟩ := (hl.below hb).str_at hlt
      have hpl : (l[k]).length ≤ 9223372036854775807 := HALL.out _ (List.getElem_mem hlt)
      have hfm := frames_take hlt
      have hle : (frames 0 (l.take (k + 1))).length ≤ (frames 0 l).length := frames_le
      generalize hp : l[k] = p at *
      rw [hfm, List.length_append] at hle
      generalize hacc : frames 0 (l.take k) = acc at *
      have HP := Lib.hid hp
      have HF := Lib.hid hfm
      have HO := Lib.hid hok
      clear hp hfm hok hacc
      rcases Nat.lt_or_ge 1048576 p.length with hbig | hsm
      · go_wp2_with (fail)
        refine (More_big k p _ (by omega) (.inl hbig)).mono ?_
        rintro e w1 ⟨rfl, hb1⟩
        go_wp2_with (fail)
        go_ret2
        refine ⟨?_, hb.trans (hb1.mono hb.size)⟩
        rw [packL_bad (HP.out ▸ List.getElem_mem hlt) hbig]
        rfl
      · go_wp2_with (fail)
        refine (More_any k p _ hsm (by omega)).mono ?_
        rintro e w1 ⟨rfl, hb1⟩
        have hbl1 := builder_below hbl hb1
        go_wp2_with (fail)
        refine (WriteString_list _ _ _ (frame k p) _ hbl1 (by omega) ?_).mono ?_
        · have := hb.size; have := hb1.size; omega
        rintro e w2 ⟨rfl, hbl2, hb2, _⟩
        go_wp2_with (fail)
        go_roundw
        case rel =>
          exact ⟨k + 1, by omega, by go_num, by
            intro q hq
            rw [List.take_succ_eq_append_getElem hlt, List.mem_append] at hq
            rcases hq with hq | hq
            · exact HO.out q hq
            · simp at hq; rw [hq, HP.out]; exact hsm, by rw [HF.out]; exact hbl2, (hb.trans (hb1.mono hb.size)).trans hb2⟩
        case measure => simp [intOf]; omega
    · obtain rfl : k = l.length := by omega
      go_wp2_with (fail)
      refine (Try.Builder_String_any_f _ _ _ _ hbl hb.size).mono ?_
      rintro e w1 ⟨rfl, _, hb1⟩
      go_wp2_with (fail)
      go_ret2
      refine ⟨?_, hb.trans hb1⟩
      rw [packL_ok (by simpa using hok)]
      simp

set_option maxHeartbeats 400000 in
theorem Pack_ref (A : Option Addr) (c : Nat) (l : List (List UInt8)) (w : World) (hl : Reads w 1 A l.length (strs l)) (h63 : l.length ≤ 4294967295) (hsz : (frames 0 l).length ≤ 140737488355328) (hall : ∀ p ∈ l, p.length ≤ 9223372036854775807) :
    Calls Try.prog 8 #[.slice A l.length c] w (Ret w (.tuple #[.string ⟨(packL l).1.toArray⟩, .int .i64 (packL l).2])) := by
  have HALL := Lib.hid hall
  clear hall
  go_enter Try.func8, Try.ntmps8
  go_wp2_with (fail)
  go_loopw [4, 5, 6, 7] (fun t4 t5 _ _ wr => ∃ k : Nat, k ≤ l.length ∧ t5 = .int .i64 k ∧ (∀ p ∈ l.take k, p.length ≤ 1048576) ∧ t4 = .string ⟨(frames 0 (l.take k)).toArray⟩ ∧ Below w.heap.size w wr) (fun _ t5 _ _ _ => l.length - (intOf t5).toNat)
  case atStart => exact ⟨0, by omega, rfl, by simp, rfl, Below.refl _ _⟩
  case round =>
    obtain ⟨k, hk, rfl, hok, rfl, hb⟩ := hrel
    by_cases hlt : k < l.length
    · obtain ⟨a, rfl, ca⟩ := (hl.below hb).str_at hlt
      have hpl : (l[k]).length ≤ 9223372036854775807 := HALL.out _ (List.getElem_mem hlt)
      have hfm := frames_take hlt
      have hle : (frames 0 (l.take (k + 1))).length ≤ (frames 0 l).length := frames_le
      generalize hp : l[k] = p at *
      rw [hfm, List.length_append] at hle
      generalize hacc : frames 0 (l.take k) = acc at *
      have HP := Lib.hid hp
      have HF := Lib.hid hfm
      have HO := Lib.hid hok
      clear hp hfm hok hacc
      have hi : (k : Int) < l.length := by omega
      rcases Nat.lt_or_ge 1048576 p.length with hbig | hsm
      · go_wp2_with (fail)
        refine (More_bigref k p _ (by omega) (.inl hbig)).mono ?_
        rintro e w1 ⟨rfl, hb1⟩
        go_wp2_with (fail)
        go_ret2
        refine ⟨?_, hb.trans (hb1.mono hb.size)⟩
        rw [packL_bad (HP.out ▸ List.getElem_mem hlt) hbig]
        rfl
      · go_wp2_with (fail)
        refine (More_ref k p _ hsm (by omega)).mono ?_
        rintro e w1 ⟨rfl, hb1⟩
        go_wp2_with (fail)
        go_roundw
        case rel =>
          exact ⟨k + 1, by omega, by go_num, by
            intro q hq
            rw [List.take_succ_eq_append_getElem hlt, List.mem_append] at hq
            rcases hq with hq | hq
            · exact HO.out q hq
            · simp at hq; rw [hq, HP.out]; exact hsm, by rw [HF.out], hb.trans (hb1.mono hb.size)⟩
        case measure => simp [intOf]; omega
    · obtain rfl : k = l.length := by omega
      go_wp2_with (fail)
      go_ret2
      refine ⟨?_, hb⟩
      rw [packL_ok (by simpa using hok)]
      simp

end Go.Proofs.Ytpkdnhkmoojplaa
