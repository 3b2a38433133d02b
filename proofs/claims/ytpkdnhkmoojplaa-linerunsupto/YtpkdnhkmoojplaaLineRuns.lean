/- hawserlaw15.LineRuns, where what it is handed is small. Condition: the bound of the second form. -/
import Derived.Test.YtpkdnhkmoojplaaLineLaw
import Derived.Test.YtpkdnhkmoojplaaTexts
import Derived.Test.YtpkdnhkmoojplaaOpen
import Derived.Test.YtpkdnhkmoojplaaLoads
import Derived.Lib.SmallJoins
namespace Go.Proofs.Ytpkdnhkmoojplaa
open Go.RowKit Plain

/-- what the frame of a message of any number is -/
def moreR (n : Int) (p : List UInt8) : List UInt8 × Nat := if 1048576 < p.length ∨ n < 0 ∨ 4294967295 < n then ([], 32) else (frame n.toNat p, 0)
theorem moreR_eq (n : Int) (p : List UInt8) : (1048576 < p.length ∨ n < 0 ∨ 4294967295 < n) ∧ moreR n p = ([], 32) ∨ p.length ≤ 1048576 ∧ (∃ k : Nat, n = k ∧ k < 4294967296 ∧ moreR n p = (frame k p, 0)) := by
  unfold moreR
  by_cases h : 1048576 < p.length ∨ n < 0 ∨ 4294967295 < n
  · rw [if_pos h]; exact .inl ⟨h, rfl⟩
  · rw [if_neg h]; exact .inr ⟨by omega, n.toNat, by omega, by omega, rfl⟩
theorem More_all (n : Int) (p : List UInt8) (w : World) (hp : p.length ≤ 9223372036854775807) :
    Calls Try.prog 14 #[.int .i64 n, .string ⟨p.toArray⟩] w (Ret w (.tuple #[.string ⟨(moreR n p).1.toArray⟩, .int .i64 (moreR n p).2])) := by
  rcases moreR_eq n p with ⟨h, e⟩ | ⟨h, k, rfl, hk, e⟩
  · rw [e]; exact More_big n p w hp h
  · rw [e]; exact More_any k p w h hk
theorem More_allref (n : Int) (p : List UInt8) (w : World) (hp : p.length ≤ 9223372036854775807) :
    Calls Try.prog 15 #[.int .i64 n, .string ⟨p.toArray⟩] w (Ret w (.tuple #[.string ⟨(moreR n p).1.toArray⟩, .int .i64 (moreR n p).2])) := by
  rcases moreR_eq n p with ⟨h, e⟩ | ⟨h, k, rfl, hk, e⟩
  · rw [e]; exact More_bigref n p w hp h
  · rw [e]; exact More_ref k p w h hk

theorem box3 {W : World} {b : Nat} {x y z : Value} {t : TypeId} {m : Nat × Nat} (h : W.heap[b]? = some (.cells #[x, y, z] t m)) : W.cell? ⟨b, 0, none⟩ = some x ∧ W.cell? ⟨b, 1, none⟩ = some y ∧ W.cell? ⟨b, 2, none⟩ = some z :=
  ⟨cell_of_row W b 0 _ _ _ h, cell_of_row W b 1 _ _ _ h, cell_of_row W b 2 _ _ _ h⟩
theorem row_below {W W' : World} {b : Nat} {o : Obj} (h : W.heap[b]? = some o) (hb : Below W.heap.size W W') : W'.heap[b]? = some o := by
  rw [hb.block b (Array.getElem?_eq_some_iff.1 h).1]; exact h

set_option maxHeartbeats 1000000 in
theorem LineRuns_any (A : Option Addr) (c : Nat) (l : List (List UInt8)) (cut flip : Int) (d : Nat) (s : List UInt8) (w : World) (hl : Reads w 1 A l.length (strs l)) (hbulk : weight l + s.length ≤ 1048576) (hd : d < 256) (hcut : cut ≤ 9223372036854775807) :
    Calls Try.prog 3 #[.slice A l.length c, .agg #[.int .i64 cut, .int .i64 flip, .int .u8 d], .string ⟨s.toArray⟩] w (Ret w (.bool true)) := by
  have hwl := weight_length l
  have hall : ∀ p ∈ l, p.length ≤ 9223372036854775807 := fun p hp => by have := weight_mem hp; omega
  have hfr := frames_weight l 0
  have hrl := read_length s.length 0 s (Nat.le_refl _)
  have hfw : (frames 0 l).length ≤ 140737488355328 := by unfold weight at hbulk; omega
  have hpk : (packL l).1.length ≤ 140737488355328 := by unfold packL; split <;> simp; omega
  have hb0 := (Below.refl w.heap.size w).alloc (Nat.le_refl _) (.cells #[.int .i64 cut, .int .i64 flip, .int .u8 d] 24)
  have hbx := heap_alloc_new w (.cells #[.int .i64 cut, .int .i64 flip, .int .u8 d] 24)
  have HBX := Lib.hid hbx
  clear hbx
  go_enter Try.func3, Try.ntmps3
  go_wp2_with (fail)
  refine (awake_any _).mono ?_
  rintro e w1 ⟨rfl, hb1⟩
  have hbx1 := row_below HBX.out hb1
  have hl1 := (hl.below hb0).below (hb1.mono (by simp))
  have hb := hb0.trans (hb1.mono (by simp))
  clear hb1 hb0 HBX hl
  go_wp2_with (fail)
  refine (Pack_any A c l _ hl1 (by omega) hfw hall).mono ?_
  rintro e w2 ⟨rfl, hb2⟩
  have hbx2 := row_below hbx1 hb2
  have hl2 := hl1.below hb2
  replace hb := hb.trans (hb2.mono hb.size)
  clear hb2 hl1 hbx1
  go_wp2_with (fail)
  refine (Pack_ref A c l _ hl2 (by omega) hfw hall).mono ?_
  rintro e w3 ⟨rfl, hb3⟩
  have hbx3 := row_below hbx2 hb3
  have hl3 := hl2.below hb3
  replace hb := hb.trans (hb3.mono hb.size)
  clear hb3 hl2 hbx2
  generalize (packL l).1 = p at *
  generalize (packL l).2 = ec at *
  obtain ⟨c0, c1, c2⟩ := box3 hbx3
  have HBX := Lib.hid hbx3
  clear hbx3
  go_wp2_with (fail)
  refine wp_region_below (by kernel_rfl) (by kernel_rfl) ?_
  repeat first
    | go_big_quiet_step ((intro hW; first | (go_at_call 9; exact Ret.quiet hW (Carry_any _ _ _ _ _ (by omega) hd hcut)) | (go_at_call 10; exact Ret.quiet hW (Carry_ref _ _ _ _ _ (by omega) hd hcut))))
    | (go_big_quiet_want; refine quiet_load_row 24 _ rfl _ rfl _ _ _ _ HBX.out Try.underlying24 rfl (by kernel_rfl) ?_; simp only [Act.put, List.setIfInBounds_toArray, List.set_cons_succ, List.set_cons_zero]; go_big_quiet_on)
  refine wpQuiet_nil ?_
  intro W4 hW4
  have hbx4 := row_below HBX.out hW4
  have hl4 := hl3.below hW4
  replace hb := hb.trans (hW4.mono hb.size)
  clear hW4 hl3 HBX c0 c1 c2
  go_wp2_with (fail)
  refine (Read_any s _ (by omega) (by omega)).mono ?_
  rintro e w5 ⟨v5, rfl, hv5, hb5⟩
  have hbx5 := row_below hbx4 hb5
  have hl5 := hl4.below hb5
  replace hb := hb.trans (hb5.mono hb.size)
  clear hb5 hl4 hbx4
  go_wp2_with (fail)
  refine (Read_ref s _ (by omega) (by omega)).mono ?_
  rintro e w6 ⟨v6, rfl, hv6, hb6⟩
  have hbx6 := row_below hbx5 hb6
  have hl6 := hl5.below hb6
  replace hv5 := hv5.below hb6
  replace hb := hb.trans (hb6.mono hb.size)
  clear hb6 hl5 hbx5
  obtain ⟨A5, c5, rfl, _, _, hr5⟩ := hv5
  obtain ⟨A6, c6, rfl, _, _, hr6⟩ := hv6
  generalize (readL 0 s).2 = er at *
  generalize (readL 0 s).1 = m at *
  go_wp2_with (fail)
  refine (Texts_any _ _ _ _ m m _ hr5 hr6 (by omega) (by omega)).mono ?_
  rintro e w7 ⟨rfl, hb7⟩
  have hbx := row_below hbx6 hb7
  have hl := hl6.below hb7
  replace hb := hb.trans (hb7.mono hb.size)
  clear hb7 hl6 hbx6 hr5 hr6
  obtain ⟨c0, c1, c2⟩ := box3 hbx
  clear hbx
  go_wp2_with (fail)
  go_loopw [13, 14, 15, 16, 17, 18, 78] (fun _ _ _ _ _ _ t78 wr => ∃ k : Nat, t78 = .int .i64 k ∧ k ≤ l.length ∧ Below w7.heap.size w7 wr) (fun _ _ _ _ _ _ t78 _ => l.length - (intOf t78).toNat)
  case atStart => exact ⟨0, rfl, by omega, Below.refl _ _⟩
  case round =>
    obtain ⟨k, rfl, hk, hbr⟩ := hrel
    by_cases hlt : k < l.length
    · have hlr := hl.below hbr
      have c0r : wr.cell? ⟨w.heap.size, 0, none⟩ = some (.int .i64 cut) := by rw [hbr.cell (World.block_lt_of_cell? _ _ c0)]; exact c0
      obtain ⟨ad, rfl, hcell⟩ := hlr.str_at hlt
      have hp := hall l[k] (List.getElem_mem hlt)
      have hlti : (k : Int) < l.length := by omega
      have hk3 : (k : Int) * 3 ≤ 9223372036854775807 := by omega
      by_cases h1 : k = 1
      · have h1i : ((k : Int) == 1) = true := by rw [h1]; rfl
        clear h1
        go_wp2_with (fail)
        refine (More_all cut l[k] _ hp).mono ?_
        rintro e w8 ⟨rfl, hb8⟩
        have hlr8 := hcell
        rw [← hb8.cell (World.block_lt_of_cell? _ _ hcell)] at hlr8
        have hbr8 := hbr.trans (hb8.mono hbr.size)
        go_wp2_with (fail)
        refine (More_allref cut l[k] _ hp).mono ?_
        rintro e w9 ⟨rfl, hb9⟩
        have hbr9 := hbr8.trans (hb9.mono hbr8.size)
        generalize (moreR cut l[k]).1 = f
        generalize (moreR cut l[k]).2 = ef
        go_wp2_with (fail)
        go_roundw
        case rel => exact ⟨k + 1, by go_num, by omega, hbr9⟩
        case measure => simp [intOf]; omega
      · have h1i : ((k : Int) == 1) = false := by simp; omega
        clear h1
        go_wp2_with (fail)
        refine (More_all ((k : Int) * 3) l[k] _ hp).mono ?_
        rintro e w8 ⟨rfl, hb8⟩
        have hlr8 := hcell
        rw [← hb8.cell (World.block_lt_of_cell? _ _ hcell)] at hlr8
        have hbr8 := hbr.trans (hb8.mono hbr.size)
        go_wp2_with (fail)
        refine (More_allref ((k : Int) * 3) l[k] _ hp).mono ?_
        rintro e w9 ⟨rfl, hb9⟩
        have hbr9 := hbr8.trans (hb9.mono hbr8.size)
        generalize (moreR ((k : Int) * 3) l[k]).1 = f
        generalize (moreR ((k : Int) * 3) l[k]).2 = ef
        go_wp2_with (fail)
        go_roundw
        case rel => exact ⟨k + 1, by go_num, by omega, hbr9⟩
        case measure => simp [intOf]; omega
    · obtain rfl : k = l.length := by omega
      go_wp2_with (fail)
      go_ret
      exact ⟨rfl, hb.trans (hbr.mono hb.size)⟩

open Go.ChangeShapes Go.WideShapes Go.ChangeAt in
/-- What the walk gives, for every argument. -/
theorem LineRuns_contract (H : Type) (enc : TypeId × Value → H) (W : World) (base : Nat) (args : Array Value) (ds gs : List (DataW H)) (before : List MemPlace)
    (hval : ∀ (j : Nat) t v, Try.f3.params[j]? = some t → args[j]? = some v → Value.okWide Try.prog W .any base t v)
    (hW : DataW.Whole enc Try.prog Try.f3.params.toList Rows.lineRunsSpec.vars false W args.toList ds gs before) (hk : Rows.uptoSmall H (ds ++ gs) = true) :
    Calls Try.prog 3 args W fun e W' => ∃ v, e = .returned v ∧ Rows.lineRunsSpec.post enc Try.prog Try.f3 false true false false W args v W' := by
  have hW' := hW
  obtain ⟨p, q, hA0, hV, rfl, hfz, hnd⟩ := hW
  have hA : DataW.TrodAll enc Try.prog W 0 (fun _ => true) true Try.f3.params.toList args.toList ds p := hA0
  rw [Try.params3] at hA hval
  obtain ⟨v0, vs0, d0, ds0, p0, q0, hargs, rfl, rfl, h0, r0⟩ := trodAll_cons hA
  obtain ⟨v1, vs1, d1, ds1, p1, q1, rfl, rfl, rfl, h1, r1⟩ := trodAll_cons r0
  obtain ⟨v2, vs2, d2, ds2, p2, q2, rfl, rfl, rfl, h2, r2⟩ := trodAll_cons r1
  obtain ⟨rfl, rfl, rfl⟩ := trodAll_nil r2
  obtain rfl : args = #[v0, v1, v2] := by cases args; simp_all
  obtain ⟨rfl, rfl⟩ := trodVars_none hV
  obtain ⟨A0, c0, x0, rfl, hc0, hm0, k0, ks0, kd0⟩ := open_texts Try.underlying22 Try.underlying9 (by kernel_rfl) (hval 0 22 v0 rfl rfl) h0
  obtain ⟨xa1, xb1, xc1, ya1, yb1, yc1, fu1, rfl, rfl, rfl, ha1, hb1, hc1⟩ := Go.Joins.open_agg3 Try.underlying24 (by kernel_rfl) (by kernel_rfl) (hval 1 24 v1 rfl rfl) h1
  obtain ⟨a1, ea1, rfl, ka1⟩ := DataW.trod_int Try.underlying3 ha1
  obtain ⟨b1, eb1, rfl, kb1⟩ := DataW.trod_int Try.underlying3 hb1
  obtain ⟨c1, ec1, rfl, kc1⟩ := DataW.trod_int Try.underlying5 hc1
  simp only [List.cons.injEq, and_true] at ea1 eb1 ec1
  subst ea1 eb1 ec1
  have la1 := bounds_i64 ka1
  have lb1 := bounds_i64 kb1
  have lc1 := bounds_u8 kc1
  obtain ⟨x2, rfl, rfl, rfl, k2⟩ := ChangeMaps.open_string Try.underlying9 (hval 2 9 v2 rfl rfl) h2
  have k2 : x2.data.toList.length ≤ 9223372036854775807 := by unfold maxLen at k2; simpa using k2
  clear hA0
  have hbulk := bulk_bound hk
  simp only [List.cons_append, List.nil_append, List.append_nil, Rows.uptoBulkAll] at hbulk
  simp only [Rows.uptoBulk] at hbulk
  have hwb := weight_le_bulk kd0
  obtain ⟨n1, rfl⟩ := Int.eq_ofNat_of_zero_le (show 0 ≤ c1 by omega)
  refine (LineRuns_any A0 c0 x0 a1 b1 n1 x2.data.toList W k0 (by omega) (by omega) (by omega)).mono ?_
  exact fun e W' ⟨he, hb⟩ => ⟨_, he, law_post rfl hW' rfl (by kernel_rfl) Try.underlying4 (by kernel_rfl) laidOut hb⟩

open Go.ChangeShapes Go.WideShapes Go.ChangeAt in
set_option maxRecDepth 100000 in
theorem LineRuns_lifted (os : Os) (started : os.Started) (H : Type) (enc : TypeId × Value → H) (F : Stop.Interp) :
    ReturnsInHanded {} Try.checked os 3 .any ((Rows.OpenSpec.upto Rows.lineRunsSpec).pre6 enc Try.prog Try.f3 Rows.lineRunsUptoRow.domain false) (((Rows.OpenSpec.upto Rows.lineRunsSpec).at F).post enc Try.prog Try.f3 false true false false) := by
  refine returnsInHanded_of_cond (C := Try.checked) (s := Rows.OpenSpec.upto Rows.lineRunsSpec) (k := Rows.uptoSmall) rfl own started (by kernel_rfl) Try.func3
    (OpenSpec.witness (enc := enc) (C := Try.checked) (s := Rows.OpenSpec.upto Rows.lineRunsSpec) (k := Rows.uptoSmall) rfl false ⟨#[], #[.slice none 0 0, .agg #[.int .i64 0, .int .i64 0, .int .u8 0], .string ⟨#[]⟩], []⟩ 8 (by kernel_rfl) (by kernel_rfl) (by kernel_rfl)
      (x := ([.nil, .agg [.lit (.int .i64 0), .lit (.int .i64 0), .lit (.int .u8 0)], .lit (.string [])], [], [])) (by kernel_rfl) rfl (by kernel_rfl)) ?_
  intro W base args ds gs before hval hW _ hk _
  exact LineRuns_contract H enc W base args ds gs before hval hW hk

theorem LineRuns_holds : Rows.LineRunsUptoSaid :=
  OpenClaim.holds_of_cond 3 Try.f3 rfl rfl rfl rfl rfl rfl rfl ⟨rfl, rfl, rfl, rfl, rfl⟩ rfl rfl rfl rfl rfl (by kernel_rfl) Try.func3 (by kernel_rfl)
    (of_decide_eq_true (by kernel_rfl)) (by unfold Func.isWrapper; first | (rw [if_pos (by decide +kernel)]; kernel_rfl) | (rw [if_neg (by decide +kernel)]; exact ⟨rfl, rfl⟩))
    (fun os started H enc _ F => LineRuns_lifted os started H enc F)
end Go.Proofs.Ytpkdnhkmoojplaa
