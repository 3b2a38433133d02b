/- The document's records: what each function answers. -/
import Derived.Test.YtfddhhaecfjepaaRec2
import Derived.Test.YtfddhhaecfjepaaHashCrcRef
namespace Go.Proofs.Ytfddhhaecfjepaa
open Go.RowKit Plain

set_option maxHeartbeats 400000 in
theorem Pack_ref1 (p : List UInt8) (w : World) (hp : p.length ≤ 1048576) :
    Calls Try.prog 19 #[.string ⟨p.toArray⟩] w (Ret w (.tuple #[.string ⟨(record p).toArray⟩, .int .i64 0])) := by
  have hl := crc_lt (four p.length ++ p)
  have hf : (four p.length).length = 4 := rfl
  have hf2 : (four (crc (four p.length ++ p))).length = 4 := rfl
  go_enter Try.func19, Try.ntmps19
  go_wp2_with (fail)
  refine (Ret.quiet (Below.refl _ _) (four_ref _ _ (by omega))).mono ?_
  rintro e w1 ⟨rfl, hb1⟩
  go_wp2_with (fail)
  refine (Ret.quiet (hb1) (Crc_ref _ _ (by simp; omega))).mono ?_
  rintro e w2 ⟨rfl, hb2⟩
  go_wp2_with (fail)
  refine (Ret.quiet (hb2) (four_ref _ _ hl)).mono ?_
  rintro e w3 ⟨rfl, hb3⟩
  go_wp2_with (fail)
  go_ret2
  refine ⟨?_, hb3⟩
  simp [record]
set_option maxHeartbeats 400000 in
theorem Pack_ref2 (p : List UInt8) (w : World) (hs : p.length ≤ 9223372036854775807) (hp : 1048576 < p.length) :
    Calls Try.prog 19 #[.string ⟨p.toArray⟩] w (Ret w (.tuple #[.string ⟨#[]⟩, .int .i64 32])) := by
  go_enter Try.func19, Try.ntmps19
  go_wp2_with (fail)
  go_ret2
  exact ⟨rfl, Below.refl _ _⟩

theorem Pack_ref (p : List UInt8) (w : World) (hs : p.length ≤ 9223372036854775807) :
    Calls Try.prog 19 #[.string ⟨p.toArray⟩] w (Ret w (.tuple #[.string ⟨(pack p).1.toArray⟩, .int .i64 (pack p).2])) := by
  rcases Nat.lt_or_ge 1048576 p.length with h | h
  · rw [pack_more h]; exact Pack_ref2 p w hs h
  · rw [pack_ok h]; exact Pack_ref1 p w h

set_option maxHeartbeats 400000 in
theorem Next_ref (s : List UInt8) (w : World)  (hs : s.length ≤ 9223372036854775807) :
    Calls Try.prog 14 #[.string ⟨s.toArray⟩] w (Ret w (.tuple #[.string ⟨(next s).1.toArray⟩, .string ⟨(next s).2.1.toArray⟩, .int .i64 (next s).2.2])) := by
  have hn := num_lt s
  go_enter Try.func14, Try.ntmps14
  go_wp2_with (fail)
  · go_ret3
    refine ⟨?_, Below.refl _ _⟩
    rw [next_short (by omega)]
    rfl
  refine (Ret.quiet (Below.refl _ _) (number_ref s 0 _ (by omega) (by omega))).mono ?_
  rintro e w1 ⟨rfl, hb1⟩
  go_wp2_with (fail)
  · go_ret3
    refine ⟨?_, hb1⟩
    rw [next_more (by omega) (by omega)]
    rfl
  · go_ret3
    refine ⟨?_, hb1⟩
    rw [next_cut (by omega) (by omega) (by omega)]
    rfl
  have l1 : (List.take 4 s ++ List.take (num s) (List.drop 8 s)).length = 4 + num s := by simp; omega
  have l2 : (4 : Int) ≤ s.length := by omega
  have l3 : 8 + num s - 8 = num s := by omega
  by_cases h3 : num (s.drop 4) = crc (s.take 4 ++ (s.drop 8).take (num s))
  · have hB : ((num (s.drop 4) : Int) != (crc (s.take 4 ++ (s.drop 8).take (num s)) : Int)) = false := by rw [h3]; simp
    have H3 := Lib.hid h3
    clear h3
    refine wp_region_below (by kernel_rfl) (by kernel_rfl) ?_
    repeat (go_big_quiet_step ((intro hW; first | (go_at_call 23; exact Ret.quiet hW (number_ref s 4 _ (by omega) (by omega))) | (go_at_call 24; exact Ret.quiet hW (Crc_ref _ _ (by simp; omega))))))
    refine wpQuiet_nil ?_
    intro W3 hW3
    go_wp2_with (fail)
    have k1 : IntKind.i64.wrap (8 + (num s : Int)) = 8 + (num s : Int) := IntWalk.i64_in _ (by omega)
    have z1 : (0 : Int) ≤ 8 + (num s : Int) := by omega
    refine wp_region_below (by kernel_rfl) (by kernel_rfl) ?_
    repeat (go_big_quiet_step (fail))
    refine wpQuiet_nil ?_
    intro W4 hW4
    go_wp2_with (fail)
    go_ret3
    refine ⟨?_, (hb1.trans (hW3.mono hb1.size)).trans (hW4.mono (Nat.le_trans hb1.size hW3.size))⟩
    rw [next_ok (by omega) (by omega) (by omega) H3.out]
    simp only [Array.getD_eq_getD_getElem?, List.getElem?_toArray, List.getElem?_cons_succ, List.getElem?_cons_zero, Option.getD_some, Nat.add_sub_cancel_left]
    rfl
  · have hB : ((num (s.drop 4) : Int) != (crc (s.take 4 ++ (s.drop 8).take (num s)) : Int)) = true := by simpa using (by omega : (num (s.drop 4) : Int) ≠ (crc (s.take 4 ++ (s.drop 8).take (num s)) : Int))
    have H3 := Lib.hid h3
    clear h3
    refine wp_region_below (by kernel_rfl) (by kernel_rfl) ?_
    repeat (go_big_quiet_step ((intro hW; first | (go_at_call 23; exact Ret.quiet hW (number_ref s 4 _ (by omega) (by omega))) | (go_at_call 24; exact Ret.quiet hW (Crc_ref _ _ (by simp; omega))))))
    refine wpQuiet_nil ?_
    intro W3 hW3
    go_wp2_with (fail)
    go_ret3
    refine ⟨?_, hb1.trans (hW3.mono hb1.size)⟩
    rw [next_sum (by omega) (by omega) (by omega) H3.out]
    rfl

set_option maxHeartbeats 400000 in
theorem One_any (s : List UInt8) (w : World)  (hs : s.length ≤ 9223372036854775807) :
    Calls Try.prog 10 #[.string ⟨s.toArray⟩] w (Ret w (.tuple #[.string ⟨(one s).1.toArray⟩, .int .i64 (one s).2])) := by
  go_enter Try.func10, Try.ntmps10
  go_wp2_with (fail)
  refine (Ret.quiet (Below.refl _ _) (Next_any s _ hs)).mono ?_
  rintro e w1 ⟨rfl, hb1⟩
  go_wp2_with (fail)
  · go_ret2
    refine ⟨?_, hb1⟩
    rw [one_more (by assumption)]
    rfl
  · go_ret2
    refine ⟨?_, hb1⟩
    rw [one_ok (by assumption)]
    rfl
set_option maxHeartbeats 400000 in
theorem One_ref (s : List UInt8) (w : World)  (hs : s.length ≤ 9223372036854775807) :
    Calls Try.prog 15 #[.string ⟨s.toArray⟩] w (Ret w (.tuple #[.string ⟨(one s).1.toArray⟩, .int .i64 (one s).2])) := by
  by_cases he : (next s).2.2 = 0
  · have hB : (((next s).2.2 : Int) == 0) = true := by rw [he]; rfl
    have HE := Lib.hid he
    clear he
    go_enter Try.func15, Try.ntmps15
    go_wp2_with (fail)
    refine (Ret.quiet (Below.refl _ _) (Next_ref s _ hs)).mono ?_
    rintro e w1 ⟨rfl, hb1⟩
    go_wp2_with (fail)
    · go_ret2
      refine ⟨?_, hb1⟩
      rw [one_more (by assumption)]
      rfl
    · go_ret2
      refine ⟨?_, hb1⟩
      rw [one_ok (by assumption)]
      rfl
  · have hB : (((next s).2.2 : Int) == 0) = false := by simpa using (by omega : ((next s).2.2 : Int) ≠ 0)
    go_enter Try.func15, Try.ntmps15
    go_wp2_with (fail)
    refine (Ret.quiet (Below.refl _ _) (Next_ref s _ hs)).mono ?_
    rintro e w1 ⟨rfl, hb1⟩
    go_wp2_with (fail)
    go_ret2
    refine ⟨?_, hb1⟩
    rw [one_ok (by rw [(next_err s he).2]; rfl)]
    rfl
end Go.Proofs.Ytfddhhaecfjepaa
