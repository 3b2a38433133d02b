/- hawserlaw04.HashOthers: the weak sum, one byte on, the check sum and the digits are the document's. The arguments are of at most 2^20 bytes. -/
import Derived.Test.YtjihemiofnhleaaHashLaw
import Derived.Test.YtjihemiofnhleaaHashHex
import Derived.Test.YtjihemiofnhleaaHashRef4
import Derived.Test.YtjihemiofnhleaaHashCrcRef
import Derived.Test.YtjihemiofnhleaaOpenArr
import Derived.Test.YtjihemiofnhleaaLoads
namespace Go.Proofs.Ytjihemiofnhleaa
open Go.RowKit Plain

set_option maxHeartbeats 2000000 in
theorem HashOthers_any (s : List UInt8) (n : Int) (y z : UInt8) (w : World) (hs : s.length ≤ 1048576) (hn : -9223372036854775808 ≤ n) (hn2 : n ≤ 9223372036854775807) :
    Calls Try.prog 7 #[.string ⟨s.toArray⟩, .int .i64 n, .agg #[.int .u8 (y.toNat : Int), .int .u8 (z.toNat : Int)]] w (Ret w (.bool true)) := by
  have hwl := weak_lt s
  have hy := y.toNat_lt
  have hz := z.toNat_lt
  go_enter Try.func7, Try.ntmps7
  go_wp2_with (fail)
  refine (awake_any _).mono ?_
  rintro e w1 ⟨rfl, hb1⟩
  have c0 : w1.cell? ⟨w.heap.size, 0, none⟩ = some (.int .u8 (y.toNat : Int)) := by
    rw [hb1.cell (by simp)]; exact cell_of_row _ _ _ _ 35 (0, 0) (heap_alloc_new w _)
  have c1 : w1.cell? ⟨w.heap.size, 1, none⟩ = some (.int .u8 (z.toNat : Int)) := by
    rw [hb1.cell (by simp)]; exact cell_of_row _ _ _ _ 35 (0, 0) (heap_alloc_new w _)
  have hbb := ((Below.refl w.heap.size w).alloc (Nat.le_refl _) (.cells #[.int .u8 (y.toNat : Int), .int .u8 (z.toNat : Int)] 35)).trans (hb1.mono (by simp))
  clear hb1
  go_wp2_with (fail)
  refine (Weak_any s _ (by omega)).mono ?_
  rintro e w2 ⟨rfl, hb2⟩
  have d0 : w2.cell? ⟨w.heap.size, 0, none⟩ = some (.int .u8 (y.toNat : Int)) := by rw [hb2.cell (World.block_lt_of_cell? _ _ c0)]; exact c0
  have d1 : w2.cell? ⟨w.heap.size, 1, none⟩ = some (.int .u8 (z.toNat : Int)) := by rw [hb2.cell (World.block_lt_of_cell? _ _ c1)]; exact c1
  have D0 := Lib.hid d0
  have D1 := Lib.hid d1
  have hbw := hbb.trans (hb2.mono hbb.size)
  clear c0 c1 hbb hb2 d0 d1
  go_wp2_with (fail)
  refine wp_region_below (by kernel_rfl) (by kernel_rfl) ?_
  repeat first
    | (go_big_quiet_want; refine quiet_load_cell 5 _ rfl _ rfl _ _ D0.out Try.underlying5 rfl ?_; simp only [Act.put, List.setIfInBounds_toArray, List.set_cons_succ, List.set_cons_zero]; go_big_quiet_on)
    | (go_big_quiet_want; refine quiet_load_cell 5 _ rfl _ rfl _ _ D1.out Try.underlying5 rfl ?_; simp only [Act.put, List.setIfInBounds_toArray, List.set_cons_succ, List.set_cons_zero]; go_big_quiet_on)
    | go_big_quiet_step ((intro hW; first | (go_at_call 15; exact Ret.quiet hW (Weak_ref _ _ (by omega))) | (go_at_call 11; exact Ret.quiet hW (Crc_any _ _ (by omega))) | (go_at_call 16; exact Ret.quiet hW (Crc_ref _ _ (by omega))) | (go_at_call 17; exact Ret.quiet hW (Hex_any _ _ (by omega))) | (go_at_call 18; exact Ret.quiet hW (Hex_ref _ _ (by omega))) | (go_at_call 14; exact Ret.quiet hW (Roll_any _ _ _ _ _ hwl (by omega) (by omega) hn hn2)) | (go_at_call 19; exact Ret.quiet hW (Roll_ref _ _ _ _ _ hwl (by omega) (by omega) hn hn2))))
  refine wpQuiet_nil ?_
  intro W4 hW4
  go_wp2_with (fail)
  go_ret
  exact ⟨rfl, hbw.trans (hW4.mono hbw.size)⟩

open Go.ChangeShapes Go.WideShapes Go.ChangeAt in
/-- What the walk gives, for every argument. -/
theorem HashOthers_contract (H : Type) (enc : TypeId × Value → H) (W : World) (base : Nat) (args : Array Value) (ds gs : List (DataW H)) (before : List MemPlace)
    (hval : ∀ (j : Nat) t v, Try.f7.params[j]? = some t → args[j]? = some v → Value.okWide Try.prog W .any base t v)
    (hW : DataW.Whole enc Try.prog Try.f7.params.toList Rows.hashOthersSpec.vars false W args.toList ds gs before) (hk : Rows.uptoSmall H (ds ++ gs) = true) :
    Calls Try.prog 7 args W fun e W' => ∃ v, e = .returned v ∧ Rows.hashOthersSpec.post enc Try.prog Try.f7 false true false false W args v W' := by
  have hW' := hW
  obtain ⟨p, q, hA0, hV, rfl, hfz, hnd⟩ := hW
  have hA : DataW.TrodAll enc Try.prog W 0 (fun _ => true) true Try.f7.params.toList args.toList ds p := hA0
  rw [Try.params7] at hA hval
  obtain ⟨v0, vs0, d0, ds0, p0, q0, hargs, rfl, rfl, h0, r0⟩ := trodAll_cons hA
  obtain ⟨v1, vs1, d1, ds1, p1, q1, rfl, rfl, rfl, h1, r1⟩ := trodAll_cons r0
  obtain ⟨v2, vs2, d2, ds2, p2, q2, rfl, rfl, rfl, h2, r2⟩ := trodAll_cons r1
  obtain ⟨rfl, rfl, rfl⟩ := trodAll_nil r2
  obtain rfl : args = #[v0, v1, v2] := by cases args; simp_all
  obtain ⟨rfl, rfl⟩ := trodVars_none hV
  obtain ⟨x0, rfl, rfl, rfl, k0⟩ := ChangeMaps.open_string Try.underlying9 (hval 0 9 v0 rfl rfl) h0
  have k0 : x0.data.toList.length ≤ 9223372036854775807 := by unfold maxLen at k0; simpa using k0
  obtain ⟨x1, rfl, rfl, rfl, k1⟩ := open_int Try.underlying3 (hval 1 3 v1 rfl rfl) h1
  have k1 := bounds_i64 k1
  obtain ⟨x2, rfl, k2⟩ := open_byteArr Try.underlying35 Try.underlying5 (by kernel_rfl) (by kernel_rfl) (hval 2 35 v2 rfl rfl) h2
  clear hA0
  have hbulk := bulk_bound hk
  simp only [List.cons_append, List.nil_append, List.append_nil, Rows.uptoBulkAll] at hbulk
  obtain ⟨y, z, rfl⟩ : ∃ y z, x2 = [y, z] := by
    match x2, k2 with
    | [y, z], _ => exact ⟨y, z, rfl⟩
  simp only [Rows.uptoBulk] at hbulk
  have hs1 : x0.data.toList.length ≤ 1048576 := by omega
  refine (HashOthers_any x0.data.toList x1 y z W hs1 (by omega) (by omega)).mono ?_
  exact fun e W' ⟨he, hb⟩ => ⟨_, he, law_post rfl hW' rfl (by kernel_rfl) Try.underlying4 (by kernel_rfl) laidOut hb⟩

open Go.ChangeShapes Go.WideShapes Go.ChangeAt in
set_option maxRecDepth 100000 in
theorem HashOthers_lifted (os : Os) (started : os.Started) (H : Type) (enc : TypeId × Value → H) (F : Stop.Interp) :
    ReturnsInHanded {} Try.checked os 7 .any ((Rows.OpenSpec.upto Rows.hashOthersSpec).pre6 enc Try.prog Try.f7 Rows.hashOthersUptoRow.domain false) (((Rows.OpenSpec.upto Rows.hashOthersSpec).at F).post enc Try.prog Try.f7 false true false false) := by
  refine returnsInHanded_of_cond (C := Try.checked) (s := Rows.OpenSpec.upto Rows.hashOthersSpec) (k := Rows.uptoSmall) rfl own started (by kernel_rfl) Try.func7
    (OpenSpec.witness (enc := enc) (C := Try.checked) (s := Rows.OpenSpec.upto Rows.hashOthersSpec) (k := Rows.uptoSmall) rfl false ⟨#[], #[.string ⟨#[]⟩, .int .i64 0, .agg #[.int .u8 0, .int .u8 0]], []⟩ 8 (by kernel_rfl) (by kernel_rfl) (by kernel_rfl)
      (x := ([.lit (.string []), .lit (.int .i64 0), .agg [.lit (.int .u8 0), .lit (.int .u8 0)]], [], [])) (by kernel_rfl) rfl (by kernel_rfl)) ?_
  intro W base args ds gs before hval hW _ hk _
  exact HashOthers_contract H enc W base args ds gs before hval hW hk

theorem HashOthers_holds : Rows.HashOthersUptoSaid :=
  OpenClaim.holds_of_cond 7 Try.f7 rfl rfl rfl rfl rfl rfl rfl ⟨rfl, rfl, rfl, rfl, rfl⟩ rfl rfl rfl rfl rfl (by kernel_rfl) Try.func7 (by kernel_rfl)
    (of_decide_eq_true (by kernel_rfl)) (by unfold Func.isWrapper; first | (rw [if_pos (by decide +kernel)]; kernel_rfl) | (rw [if_neg (by decide +kernel)]; exact ⟨rfl, rfl⟩))
    (fun os started H enc _ F => HashOthers_lifted os started H enc F)
end Go.Proofs.Ytjihemiofnhleaa
