/- hawserlaw15.LineMore, where what it is handed is small. Condition: the bound of the second form. -/
import Derived.Test.YtpkdnhkmoojplaaLineLaw
import Derived.Test.YtpkdnhkmoojplaaTexts
import Derived.Test.YtpkdnhkmoojplaaOpen
namespace Go.Proofs.Ytpkdnhkmoojplaa
open Go.RowKit Plain

set_option maxHeartbeats 1000000 in
theorem LineMore_any (A : Option Addr) (c : Nat) (l : List (List UInt8)) (p : List UInt8) (n : Int) (w : World) (hl : Reads w 1 A l.length (strs l)) (hbulk : weight l + p.length ≤ 1048576) (hn : -9223372036854775808 ≤ n) (hn' : n ≤ 9223372036854775807) :
    Calls Try.prog 5 #[.slice A l.length c, .string ⟨p.toArray⟩, .int .i64 n] w (Ret w (.bool true)) := by
  have hwl := weight_length l
  have hall63 : ∀ p ∈ l, p.length ≤ 9223372036854775807 := fun p hp => by have := weight_mem hp; omega
  have hfr := frames_weight l 0
  have hfw : (frames 0 l).length ≤ 140737488355328 := by unfold weight at hbulk; omega
  have hall : ∀ p ∈ l, p.length ≤ 1048576 := fun p hp => by have := weight_mem hp; omega
  have hpk := packL_ok hall
  have hPk := fun w h => Pack_any A c l w h (by omega) hfw hall63
  rw [hpk] at hPk
  have hMo := fun w => More_any l.length p w (by omega) (by omega)
  have hfl : (frame l.length p).length ≤ 35184372088 := by rw [frame_length]; omega
  have hrm := read_more hall (show p.length ≤ 1048576 by omega)
  have hR1 := fun w => Read_any (frames 0 l ++ frame l.length p) w (by rw [List.length_append]; unfold weight at hbulk; omega) (by rw [hrm]; simp; omega)
  rw [hrm] at hR1
  have hrest : ∀ k : Nat, n = k → k ≠ l.length → k ≤ 1000000 → readL 0 (frames 0 l ++ frame k p) = (l, 150) := fun k _ h1 h2 => read_turn hall (by omega) (by omega) (by omega) h1
  have HREST := Lib.hid hrest
  have HFW := Lib.hid hfr
  clear hrest hfr hrm hpk hall hall63
  go_enter Try.func5, Try.ntmps5
  go_wp2_with (fail)
  refine (Ret.quiet (Below.refl _ _) (awake_any _)).mono ?_
  rintro e w1 ⟨rfl, hb1⟩
  go_wp2_with (fail)
  refine (hPk _ (hl.below hb1)).mono ?_
  rintro e w2 ⟨rfl, hb2⟩
  have hb := hb1.trans (hb2.mono hb1.size)
  have hl2 := (hl.below hb1).below hb2
  clear hb1 hb2
  go_wp2_with (fail)
  refine (hMo _).mono ?_
  rintro e w3 ⟨rfl, hb3⟩
  replace hb := hb.trans (hb3.mono hb.size)
  have hl3 := hl2.below hb3
  clear hb3 hl2
  go_wp2_with (fail)
  refine (hR1 _).mono ?_
  rintro e w4 ⟨v4, rfl, hv4, hb4⟩
  replace hb := hb.trans (hb4.mono hb.size)
  have hl4 := hl3.below hb4
  clear hb4 hl3
  obtain ⟨A4, c4, rfl, hc4, hm4, hr4⟩ := hv4
  have hk4 : (l ++ [p]).length = l.length + 1 := by simp
  obtain ⟨ad, rfl, hcell⟩ := hr4.str_at (l := l ++ [p]) (k := l.length) (by simp)
  have hget : (l ++ [p])[l.length]'(by simp) = p := by simp
  rw [hget] at hcell
  rw [hk4] at hr4 hc4
  rw [hk4]
  have ht4 : Reads w4 1 (some ad) l.length (strs l) := by
    have h := hr4.take (k := l.length) (by omega)
    rw [strs_append, Nat.mul_one, List.take_left' (strs_length l)] at h
    exact h
  have hlti : (l.length : Int) < ((l.length + 1 : Nat) : Int) := by omega
  clear hr4 hget hk4
  go_wp2_with (fail)
  refine (Texts_any _ _ _ _ l l _ ht4 hl4 (by omega) (by omega)).mono ?_
  rintro e w5 ⟨rfl, hb5⟩
  replace hb := hb.trans (hb5.mono hb.size)
  have hl5 := hl4.below hb5
  clear hb5 hl4 ht4 hcell
  have hl0 : (0 : Int) ≤ l.length := by omega
  rcases Int.lt_or_le n 0 with h0 | h0
  · go_wp2_with (fail)
    go_ret
    exact ⟨rfl, hb⟩
  by_cases he : n = l.length
  · have heb : (n == (l.length : Int)) = true := by rw [he]; simp
    clear he
    go_wp2_with (fail)
    go_ret
    exact ⟨rfl, hb⟩
  have heb : (n == (l.length : Int)) = false := by simpa using he
  rcases Int.lt_or_le 1000000 n with h2 | h2
  · go_wp2_with (fail)
    go_ret
    exact ⟨rfl, hb⟩
  obtain ⟨k, rfl⟩ := Int.eq_ofNat_of_zero_le h0
  have hrd := HREST.out k rfl (by omega) (by omega)
  have hMk := fun w => More_any k p w (by omega) (by omega)
  have hfk : (frame k p).length ≤ 35184372088 := by rw [frame_length]; omega
  have hR2 := fun w => Read_any (frames 0 l ++ frame k p) w (by rw [List.length_append]; have := HFW.out; unfold weight at hbulk; omega) (by rw [hrd]; simp; omega)
  rw [hrd] at hR2
  clear hrd he
  go_wp2_with (fail)
  refine (hMk _).mono ?_
  rintro e w6 ⟨rfl, hb6⟩
  replace hb := hb.trans (hb6.mono hb.size)
  have hl6 := hl5.below hb6
  clear hb6 hl5
  go_wp2_with (fail)
  refine (hR2 _).mono ?_
  rintro e w7 ⟨v7, rfl, hv7, hb7⟩
  replace hb := hb.trans (hb7.mono hb.size)
  have hl7 := hl6.below hb7
  clear hb7 hl6
  obtain ⟨A7, c7, rfl, hc7, hm7, hr7⟩ := hv7
  go_wp2_with (fail)
  refine (Texts_any _ _ _ _ l l _ hr7 hl7 (by omega) (by omega)).mono ?_
  rintro e w8 ⟨rfl, hb8⟩
  replace hb := hb.trans (hb8.mono hb.size)
  go_wp2_with (fail)
  go_ret
  exact ⟨by simp, hb⟩

open Go.ChangeShapes Go.WideShapes Go.ChangeAt in
/-- What the walk gives, for every argument. -/
theorem LineMore_contract (H : Type) (enc : TypeId × Value → H) (W : World) (base : Nat) (args : Array Value) (ds gs : List (DataW H)) (before : List MemPlace)
    (hval : ∀ (j : Nat) t v, Try.f5.params[j]? = some t → args[j]? = some v → Value.okWide Try.prog W .any base t v)
    (hW : DataW.Whole enc Try.prog Try.f5.params.toList Rows.lineMoreSpec.vars false W args.toList ds gs before) (hk : Rows.uptoSmall H (ds ++ gs) = true) :
    Calls Try.prog 5 args W fun e W' => ∃ v, e = .returned v ∧ Rows.lineMoreSpec.post enc Try.prog Try.f5 false true false false W args v W' := by
  have hW' := hW
  obtain ⟨p, q, hA0, hV, rfl, hfz, hnd⟩ := hW
  have hA : DataW.TrodAll enc Try.prog W 0 (fun _ => true) true Try.f5.params.toList args.toList ds p := hA0
  rw [Try.params5] at hA hval
  obtain ⟨v0, vs0, d0, ds0, p0, q0, hargs, rfl, rfl, h0, r0⟩ := trodAll_cons hA
  obtain ⟨v1, vs1, d1, ds1, p1, q1, rfl, rfl, rfl, h1, r1⟩ := trodAll_cons r0
  obtain ⟨v2, vs2, d2, ds2, p2, q2, rfl, rfl, rfl, h2, r2⟩ := trodAll_cons r1
  obtain ⟨rfl, rfl, rfl⟩ := trodAll_nil r2
  obtain rfl : args = #[v0, v1, v2] := by cases args; simp_all
  obtain ⟨rfl, rfl⟩ := trodVars_none hV
  obtain ⟨A0, c0, x0, rfl, hc0, hm0, k0, ks0, kd0⟩ := open_texts Try.underlying22 Try.underlying9 (by kernel_rfl) (hval 0 22 v0 rfl rfl) h0
  obtain ⟨x1, rfl, rfl, rfl, k1⟩ := ChangeMaps.open_string Try.underlying9 (hval 1 9 v1 rfl rfl) h1
  have k1 : x1.data.toList.length ≤ 9223372036854775807 := by unfold maxLen at k1; simpa using k1
  obtain ⟨x2, rfl, rfl, rfl, k2⟩ := open_int Try.underlying3 (hval 2 3 v2 rfl rfl) h2
  have k2 := bounds_i64 k2
  clear hA0
  have hbulk := bulk_bound hk
  simp only [List.cons_append, List.nil_append, List.append_nil, Rows.uptoBulkAll] at hbulk
  simp only [Rows.uptoBulk] at hbulk
  have hwb := weight_le_bulk kd0
  refine (LineMore_any A0 c0 x0 x1.data.toList x2 W k0 (by omega) (by omega) (by omega)).mono ?_
  exact fun e W' ⟨he, hb⟩ => ⟨_, he, law_post rfl hW' rfl (by kernel_rfl) Try.underlying4 (by kernel_rfl) laidOut hb⟩

open Go.ChangeShapes Go.WideShapes Go.ChangeAt in
set_option maxRecDepth 100000 in
theorem LineMore_lifted (os : Os) (started : os.Started) (H : Type) (enc : TypeId × Value → H) (F : Stop.Interp) :
    ReturnsInHanded {} Try.checked os 5 .any ((Rows.OpenSpec.upto Rows.lineMoreSpec).pre6 enc Try.prog Try.f5 Rows.lineMoreUptoRow.domain false) (((Rows.OpenSpec.upto Rows.lineMoreSpec).at F).post enc Try.prog Try.f5 false true false false) := by
  refine returnsInHanded_of_cond (C := Try.checked) (s := Rows.OpenSpec.upto Rows.lineMoreSpec) (k := Rows.uptoSmall) rfl own started (by kernel_rfl) Try.func5
    (OpenSpec.witness (enc := enc) (C := Try.checked) (s := Rows.OpenSpec.upto Rows.lineMoreSpec) (k := Rows.uptoSmall) rfl false ⟨#[], #[.slice none 0 0, .string ⟨#[]⟩, .int .i64 0], []⟩ 8 (by kernel_rfl) (by kernel_rfl) (by kernel_rfl)
      (x := ([.nil, .lit (.string []), .lit (.int .i64 0)], [], [])) (by kernel_rfl) rfl (by kernel_rfl)) ?_
  intro W base args ds gs before hval hW _ hk _
  exact LineMore_contract H enc W base args ds gs before hval hW hk

theorem LineMore_holds : Rows.LineMoreUptoSaid :=
  OpenClaim.holds_of_cond 5 Try.f5 rfl rfl rfl rfl rfl rfl rfl ⟨rfl, rfl, rfl, rfl, rfl⟩ rfl rfl rfl rfl rfl (by kernel_rfl) Try.func5 (by kernel_rfl)
    (of_decide_eq_true (by kernel_rfl)) (by unfold Func.isWrapper; first | (rw [if_pos (by decide +kernel)]; kernel_rfl) | (rw [if_neg (by decide +kernel)]; exact ⟨rfl, rfl⟩))
    (fun os started H enc _ F => LineMore_lifted os started H enc F)
end Go.Proofs.Ytpkdnhkmoojplaa
