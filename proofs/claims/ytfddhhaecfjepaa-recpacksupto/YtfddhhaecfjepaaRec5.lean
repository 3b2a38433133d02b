import Derived.Test.YtfddhhaecfjepaaRec4
import Derived.Test.YtfddhhaecfjepaaBuilder
namespace Go.Proofs.Ytfddhhaecfjepaa
open Go.RowKit Plain

set_option maxHeartbeats 400000 in
theorem Join_any (A : Option Addr) (c : Nat) (l : List (List UInt8)) (w : World) (hl : Reads w 1 A l.length (strs l)) (h63 : l.length ≤ 9223372036854775807) (hsz : (l.flatMap record).length ≤ 140737488355328) (hall : ∀ p ∈ l, p.length ≤ 9223372036854775807) :
    Calls Try.prog 17 #[.slice A l.length c] w (Ret w (.tuple #[.string ⟨(join l).1.toArray⟩, .int .i64 (join l).2])) := by
  go_enter Try.func17, Try.ntmps17
  go_wp2_with (fail)
  go_loopw [6, 7, 8, 11] (fun _ _ _ t11 wr => ∃ k : Nat, k ≤ l.length ∧ t11 = .int .i64 k ∧ (∀ p ∈ l.take k, p.length ≤ 1048576) ∧ Lib.IsBuilderF 52 5 w.heap.size w.heap.size (Lib.byteCells ((l.take k).flatMap record)) wr ∧ Below w.heap.size w wr) (fun _ _ _ t11 _ => l.length - (intOf t11).toNat)
  case atStart => exact ⟨0, by omega, rfl, by simp, fresh_builder w, (Below.refl _ _).alloc (Nat.le_refl _) _⟩
  case round =>
    obtain ⟨k, hk, rfl, hok, hbl, hb⟩ := hrel
    by_cases hlt : k < l.length
    · obtain ⟨a, rfl, ca⟩ := (hl.below hb).str_at hlt
      have hpl : (l[k]).length ≤ 9223372036854775807 := hall _ (List.getElem_mem hlt)
      have hfm := flatMap_take hlt record
      have hle : ((l.take (k + 1)).flatMap record).length ≤ (l.flatMap record).length := by
        conv => rhs; rw [← List.take_append_drop (k + 1) l, List.flatMap_append, List.length_append]
        omega
      generalize hp : l[k] = p at *
      have HP := Lib.hid hp
      have HF := Lib.hid hfm
      have HO := Lib.hid hok
      clear hp hfm hok
      rcases Nat.lt_or_ge 1048576 p.length with hbig | hsm
      · go_wp2_with (fail)
        refine (Pack_more p _ (by omega) hbig).mono ?_
        rintro e w1 ⟨rfl, hb1⟩
        go_wp2_with (fail)
        go_ret2
        refine ⟨?_, hb.trans (hb1.mono hb.size)⟩
        rw [join_bad (HP.out ▸ List.getElem_mem hlt) hbig]
        rfl
      · go_wp2_with (fail)
        refine (Pack_any p _ hsm).mono ?_
        rintro e w1 ⟨rfl, hb1⟩
        have hbl1 := builder_below hbl hb1
        go_wp2_with (fail)
        refine (WriteString_list _ _ _ (record p) _ hbl1 ?_ ?_).mono ?_
        · have := HF.out; rw [this, List.length_append] at hle; omega
        · have := hb.size; have := hb1.size; omega
        rintro e w2 ⟨rfl, hbl2, hb2, _⟩
        go_wp2_with (fail)
        go_roundw
        case rel =>
          exact ⟨k + 1, by omega, by go_num, by
            intro q hq
            rw [List.take_succ_eq_append_getElem hlt, List.mem_append] at hq
            rcases hq with hq | hq
            · exact HO.out q hq
            · simp at hq; rw [hq, HP.out]; exact hsm, by rw [HF.out]; exact hbl2, (hb.trans (hb1.mono hb.size)).trans hb2⟩
        case measure => simp [intOf]; omega
    · obtain rfl : k = l.length := by omega
      go_wp2_with (fail)
      refine (Try.Builder_String_any_f _ _ _ _ hbl hb.size).mono ?_
      rintro e w1 ⟨rfl, _, hb1⟩
      go_wp2_with (fail)
      go_ret2
      refine ⟨?_, hb.trans hb1⟩
      rw [join_ok (by simpa using hok)]
      rfl

set_option maxHeartbeats 400000 in
theorem Join_ref (A : Option Addr) (c : Nat) (l : List (List UInt8)) (w : World) (hl : Reads w 1 A l.length (strs l)) (h63 : l.length ≤ 9223372036854775807) (hsz : (l.flatMap record).length ≤ 9223372036854775807) (hall : ∀ p ∈ l, p.length ≤ 9223372036854775807) :
    Calls Try.prog 18 #[.slice A l.length c] w (Ret w (.tuple #[.string ⟨(join l).1.toArray⟩, .int .i64 (join l).2])) := by
  go_enter Try.func18, Try.ntmps18
  go_wp2_with (fail)
  go_loopw [4, 5, 6, 7] (fun t4 t5 _ _ wr => ∃ k : Nat, k ≤ l.length ∧ t5 = .int .i64 k ∧ (∀ p ∈ l.take k, p.length ≤ 1048576) ∧ t4 = .string ⟨((l.take k).flatMap record).toArray⟩ ∧ Below w.heap.size w wr) (fun _ t5 _ _ _ => l.length - (intOf t5).toNat)
  case atStart => exact ⟨0, by omega, rfl, by simp, rfl, Below.refl _ _⟩
  case round =>
    obtain ⟨k, hk, rfl, hok, rfl, hb⟩ := hrel
    by_cases hlt : k < l.length
    · obtain ⟨a, rfl, ca⟩ := (hl.below hb).str_at hlt
      have hpl : (l[k]).length ≤ 9223372036854775807 := hall _ (List.getElem_mem hlt)
      have hfm := flatMap_take hlt record
      have hle : ((l.take (k + 1)).flatMap record).length ≤ (l.flatMap record).length := by
        conv => rhs; rw [← List.take_append_drop (k + 1) l, List.flatMap_append, List.length_append]
        omega
      generalize hp : l[k] = p at *
      rw [hfm, List.length_append] at hle
      generalize hacc : (l.take k).flatMap record = acc at *
      have HP := Lib.hid hp
      have HF := Lib.hid hfm
      have HO := Lib.hid hok
      clear hp hfm hok hacc
      have hi : (k : Int) < l.length := by omega
      rcases Nat.lt_or_ge 1048576 p.length with hbig | hsm
      · go_wp2_with (fail)
        refine (Pack_ref2 p _ (by omega) hbig).mono ?_
        rintro e w1 ⟨rfl, hb1⟩
        go_wp2_with (fail)
        go_ret2
        refine ⟨?_, hb.trans (hb1.mono hb.size)⟩
        rw [join_bad (HP.out ▸ List.getElem_mem hlt) hbig]
        rfl
      · go_wp2_with (fail)
        refine (Pack_ref1 p _ hsm).mono ?_
        rintro e w1 ⟨rfl, hb1⟩
        go_wp2_with (fail)
        go_roundw
        case rel =>
          exact ⟨k + 1, by omega, by go_num, by
            intro q hq
            rw [List.take_succ_eq_append_getElem hlt, List.mem_append] at hq
            rcases hq with hq | hq
            · exact HO.out q hq
            · simp at hq; rw [hq, HP.out]; exact hsm, by rw [HF.out], hb.trans (hb1.mono hb.size)⟩
        case measure => simp [intOf]; omega
    · obtain rfl : k = l.length := by omega
      go_wp2_with (fail)
      go_ret2
      refine ⟨?_, hb⟩
      rw [join_ok (by simpa using hok)]
      simp
end Go.Proofs.Ytfddhhaecfjepaa
