/- hawserlaw05.RecTurned: whatever payload, place and byte it is handed, the law answers true: a record one byte of which is another one is refused. No condition. -/
import Derived.Test.YtfddhhaecfjepaaRecLaw
import Derived.Test.YtfddhhaecfjepaaClose
namespace Go.Proofs.Ytfddhhaecfjepaa
open Go.RowKit Plain

set_option maxHeartbeats 400000 in
theorem RecTurned_any (p : List UInt8) (at_ y : Int) (w : World) (hp : p.length ≤ 9223372036854775807) (hy : 0 ≤ y ∧ y < 256) :
    Calls Try.prog 3 #[.string ⟨p.toArray⟩, .int .i64 at_, .int .u8 y] w (Ret w (.bool true)) := by
  rcases Nat.lt_or_ge 1048576 p.length with hbig | hsm
  · go_enter Try.func3, Try.ntmps3
    go_wp2_with (fail)
    refine (Ret.quiet (Below.refl _ _) (awake_any _)).mono ?_
    rintro e w1 ⟨rfl, hb1⟩
    go_wp2_with (fail)
    refine (Ret.quiet (hb1) (Pack_more p _ hp hbig)).mono ?_
    rintro e w2 ⟨rfl, hb2⟩
    go_wp2_with (fail)
    go_ret
    exact ⟨rfl, hb2⟩
  have hl := record_length p
  by_cases hneg : at_ < 0 ∨ (record p).length ≤ at_ ∨ y = 0
  · have hr : (!(record p).isEmpty) = true := by
      cases h : record p with
      | nil => rw [h] at hl; simp at hl; omega
      | cons => rfl
    rcases hneg with h | h
    · have hB : decide (at_ < 0) = true := by simpa using h
      go_enter Try.func3, Try.ntmps3
      go_wp2_with (fail)
      refine (Ret.quiet (Below.refl _ _) (awake_any _)).mono ?_
      rintro e w1 ⟨rfl, hb1⟩
      go_wp2_with (fail)
      refine (Ret.quiet (hb1) (Pack_any p _ hsm)).mono ?_
      rintro e w2 ⟨rfl, hb2⟩
      go_wp2_with (fail)
      go_ret
      exact ⟨rfl, hb2⟩
    by_cases h0 : at_ < 0
    · have hB : decide (at_ < 0) = true := by simpa using h0
      go_enter Try.func3, Try.ntmps3
      go_wp2_with (fail)
      refine (Ret.quiet (Below.refl _ _) (awake_any _)).mono ?_
      rintro e w1 ⟨rfl, hb1⟩
      go_wp2_with (fail)
      refine (Ret.quiet (hb1) (Pack_any p _ hsm)).mono ?_
      rintro e w2 ⟨rfl, hb2⟩
      go_wp2_with (fail)
      go_ret
      exact ⟨rfl, hb2⟩
    have h0' : 0 ≤ at_ := by omega
    by_cases hge : ((record p).length : Int) ≤ at_
    · go_enter Try.func3, Try.ntmps3
      go_wp2_with (fail)
      refine (Ret.quiet (Below.refl _ _) (awake_any _)).mono ?_
      rintro e w1 ⟨rfl, hb1⟩
      go_wp2_with (fail)
      refine (Ret.quiet (hb1) (Pack_any p _ hsm)).mono ?_
      rintro e w2 ⟨rfl, hb2⟩
      go_wp2_with (fail)
      go_ret
      exact ⟨rfl, hb2⟩
    have hlt : at_ < ((record p).length : Int) := by omega
    obtain rfl : y = 0 := by omega
    clear h
    go_enter Try.func3, Try.ntmps3
    go_wp2_with (fail)
    refine (Ret.quiet (Below.refl _ _) (awake_any _)).mono ?_
    rintro e w1 ⟨rfl, hb1⟩
    go_wp2_with (fail)
    refine (Ret.quiet (hb1) (Pack_any p _ hsm)).mono ?_
    rintro e w2 ⟨rfl, hb2⟩
    go_wp2_with (fail)
    go_ret
    exact ⟨rfl, hb2⟩
  · obtain ⟨k, rfl⟩ := Int.eq_ofNat_of_zero_le (show 0 ≤ at_ by omega)
    obtain ⟨d, rfl⟩ := Int.eq_ofNat_of_zero_le hy.1
    have hk : k < (record p).length := by omega
    have hd : d < 256 := by omega
    have hd0 : ((d : Int) == 0) = false := by simpa using (by omega : ¬ d = 0)
    have hki : (k : Int) < ((record p).length : Int) := by omega
    -- the text with one byte turned
    have hx : (record p)[k].toNat ^^^ d < 256 := by
      have := Nat.xor_lt_two_pow (n := 8) (x := (record p)[k].toNat) (y := d) ((record p)[k].toNat_lt) (by omega); omega
    have hxor := u8_xor_nat (record p)[k].toNat d ((record p)[k].toNat_lt) hd
    have hsplit : record p = (record p).take k ++ (record p)[k] :: (record p).drop (k + 1) := by
      rw [← List.drop_eq_getElem_cons hk, List.take_append_drop]
    have hne : (record p)[k] ≠ UInt8.ofNat ((record p)[k].toNat ^^^ d) := by
      intro he
      have h1 := congrArg UInt8.toNat he
      rw [UInt8.toNat_ofNat', Nat.mod_eq_of_lt hx] at h1
      have h2 := congrArg (· ^^^ (record p)[k].toNat) h1
      simp only [Nat.xor_self] at h2
      rw [Nat.xor_comm, ← Nat.xor_assoc, Nat.xor_self, Nat.zero_xor] at h2
      omega
    have hone := one_turned p hsm _ _ hne hsplit
    generalize ht : (record p).take k ++ UInt8.ofNat ((record p)[k].toNat ^^^ d) :: (record p).drop (k + 1) = t at *
    have htl : t.length = (record p).length := by rw [← ht]; simp; omega
    have hset : t = (record p).set k (UInt8.ofNat ((record p)[k].toNat ^^^ d)) := by rw [← ht, List.set_eq_take_append_cons_drop, if_pos hk]
    generalize hxx : (record p)[k].toNat ^^^ d = x at *
    have hcp : ∀ w, Calls Try.prog 9 #[.string ⟨p.toArray⟩] w (Ret w (.tuple #[.string ⟨(record p).toArray⟩, .int .i64 0])) := fun w => Pack_any p w hsm
    generalize record p = r at *
    have CP := Lib.hid hcp
    clear hcp
    generalize hc : r[k] = c at *
    have HSET := Lib.hid hset
    have HC := Lib.hid hc
    have HTL := Lib.hid htl
    have htl1 : t.length ≤ r.length := by omega
    have hlr : r.length ≤ 1048584 := by omega
    clear hneg hsplit hne ht hy hset hc hl htl hxx
    have h1' : (one t).1 = [] := hone.1
    have h2' : ((((one t).2 : Nat) : Int) != 0) = true := by simpa using (by have := hone.2; omega : (((one t).2 : Nat) : Int) ≠ 0)
    clear hone
    go_enter Try.func3, Try.ntmps3
    go_wp2_with (fail)
    refine (Ret.quiet (Below.refl _ _) (awake_any _)).mono ?_
    rintro e w1 ⟨rfl, hb1⟩
    go_wp2_with (fail)
    refine (Ret.quiet (hb1) (CP.out w1)).mono ?_
    rintro e w2 ⟨rfl, hb2⟩
    go_wp2_with (fail)
    obtain ⟨cap, C, m, hconv, hcap, hCs, rfl, hC⟩ := conv_bytes (P := Try.prog) w2 9 26 5 Try.underlying9 Try.underlying26 Try.underlying5 r
    have hcell : (w2.alloc (.cells C 5 (cap, cap + 1))).cell? ⟨w2.heap.size, k, none⟩ = some (.int .u8 (c.toNat : Int)) := by
      rw [cell_of_row _ _ _ C 5 (cap, cap + 1) (heap_alloc_new w2 _), hC k hk, HC.out]
    have hfz := frozen_laid w2 C 5 cap k (by omega)
    have hC2 := Lib.hid hC
    clear hC
    rw [hconv]
    clear hconv
    go_wp2_with (fail)
    rw [conv_back (P := Try.prog) ((w2.alloc (.cells C 5 (cap, cap + 1))).setCell ⟨w2.heap.size, k, none⟩ (.int .u8 (x : Int))).drew 26 9 5 Try.underlying26 Try.underlying5 Try.underlying9 t w2.heap.size r.length cap HTL.out.symm _ _ (heap_laid_set w2 C 5 (cap, cap + 1) k _) ?hcells]
    case hcells =>
      intro j hj
      have hC := hC2.out
      have hset := HSET.out
      subst hset
      by_cases hjk : j = k
      · subst hjk
        rw [Array.getElem?_setIfInBounds_self_of_lt (by omega)]
        simp [Nat.mod_eq_of_lt hx]
      · rw [Array.getElem?_setIfInBounds_ne (Ne.symm hjk), List.getElem_set_ne (Ne.symm hjk)]
        exact hC j (by simpa using hj)
    go_wp2_with (fail)
    refine (Ret.quiet (w := w) ?hbl (One_any t _ (by omega))).mono ?_
    case hbl => exact ((hb2.alloc hb2.size _).setCell (p := ⟨w2.heap.size, k, none⟩) hb2.size _).drew
    rintro e w3 ⟨rfl, hb3⟩
    go_wp2_with (fail)
    go_ret
    exact ⟨rfl, hb3⟩

open Go.ChangeShapes Go.WideShapes Go.ChangeAt
set_option maxRecDepth 100000 in
theorem RecTurned_lifted (os : Os) (started : os.Started) (H : Type) (enc : TypeId × Value → H) :
    ReturnsInHanded {} Try.checked os 3 .any (Rows.recTurnedSpec.pre6 enc Try.prog Try.f3 Rows.recTurnedRow.domain false) (Rows.recTurnedSpec.post enc Try.prog Try.f3 false true false false) := by
  refine returnsInHanded_of_change (C := Try.checked) own started (by kernel_rfl) Try.func3
    (ChangeSpec.witness6 (enc := enc) (C := Try.checked) false ⟨#[], #[.string ⟨#[]⟩, .int .i64 0, .int .u8 0], []⟩ 8 (by kernel_rfl) (by kernel_rfl) (by kernel_rfl) (by kernel_rfl)) ?_
  intro W base args ds gs before hval0 hW hcnd _
  have hval : ∀ (j : Nat) t v, Try.f3.params[j]? = some t → args[j]? = some v → Value.okWide Try.prog W .any base t v := hval0
  have hW' : DataW.Whole enc Try.prog Try.f3.params.toList Rows.recTurnedSpec.vars false W args.toList ds gs before := hW
  obtain ⟨p, q, hA0, hV, rfl, hfz, hnd⟩ := hW
  have hA : DataW.TrodAll enc Try.prog W 0 (fun _ => true) true Try.f3.params.toList args.toList ds p := hA0
  rw [Try.params3] at hA hval
  obtain ⟨v0, v1, v2, d0, d1, d2, p0, p1, p2, rfl, rfl, rfl, h0, h1, h2⟩ := trodAll_three hA
  obtain ⟨rfl, rfl⟩ := trodVars_none hV
  obtain ⟨s, rfl, rfl, rfl, ws⟩ := ChangeMaps.open_string Try.underlying9 (hval 0 9 v0 rfl rfl) h0
  obtain ⟨a, rfl, rfl, rfl, wa⟩ := open_int Try.underlying3 (hval 1 3 v1 rfl rfl) h1
  obtain ⟨b, rfl, rfl, rfl, wb⟩ := open_int Try.underlying5 (hval 2 5 v2 rfl rfl) h2
  have bb : 0 ≤ b ∧ b < 256 := by have := bounds_u8 wb; omega
  refine (RecTurned_any s.data.toList a b W (by unfold maxLen at ws; simpa using ws) bb).mono fun e W' ⟨he, hb⟩ => ⟨_, he, ?_⟩
  exact law_post rfl hW' rfl (by kernel_rfl) Try.underlying4 (by kernel_rfl) laidOut hb

theorem RecTurned_holds : Rows.RecTurnedSaid :=
  OpenClaim.holds_of_wide 3 Try.f3 rfl rfl rfl rfl rfl rfl rfl ⟨rfl, rfl, rfl, rfl, rfl⟩ rfl rfl rfl rfl rfl (by kernel_rfl) Try.func3 (by kernel_rfl)
    (of_decide_eq_true (by kernel_rfl)) (by unfold Func.isWrapper; first | (rw [if_pos (by decide +kernel)]; kernel_rfl) | (rw [if_neg (by decide +kernel)]; exact ⟨rfl, rfl⟩))
    (fun os started H enc _ => RecTurned_lifted os started H enc)

end Go.Proofs.Ytfddhhaecfjepaa
