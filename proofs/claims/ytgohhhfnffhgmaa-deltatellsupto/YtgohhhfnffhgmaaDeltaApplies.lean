/- hawserlaw14.DeltaApplies: what whatever steps make, and which are refused, is the document's. Its condition: what it reads is of bulk at most 1048576. -/
import Derived.Test.YtgohhhfnffhgmaaDeltaOpen
import Derived.Test.YtgohhhfnffhgmaaOpen
namespace Go.Proofs.Ytgohhhfnffhgmaa
open Go.RowKit Go.ChangeShapes Go.WideShapes Go.ChangeAt Plain

/-- what Apply answers at whatever size -/
def resA (base : List UInt8) (sz : Int) (l : List Stp) : List UInt8 × Nat := if sz < 1 ∨ 65536 < sz then ([], 2) else applyP base sz.toNat l []
theorem ApplyD_any (A : Option Addr) (ca : Nat) (l : List Stp) (base : List UInt8) (sz : Int) (w : World) (hL : IsRows w 3 A (l.map stpV)) (hok : ∀ o ∈ l, OkI o) (hb : base.length ≤ 1048576) (hl : l.length ≤ 1048576) :
    Calls Try.prog 12 #[.string ⟨base.toArray⟩, .int .i64 sz, .slice A l.length ca] w (Ret w (.tuple #[.string ⟨(resA base sz l).1.toArray⟩, .int .i64 ((resA base sz l).2 : Nat)])) := by
  by_cases q : sz < 1 ∨ 65536 < sz
  · unfold resA
    rw [if_pos q]
    exact Apply_bad _ base sz w q
  · obtain ⟨size, rfl⟩ := Int.eq_ofNat_of_zero_le (show 0 ≤ sz by omega)
    unfold resA
    rw [if_neg q]
    exact Apply_any A ca l base size w hL hok (by omega) (by omega) (by omega) (by omega)
theorem ApplyR_any (A : Option Addr) (ca : Nat) (l : List Stp) (base : List UInt8) (sz : Int) (w : World) (hL : IsRows w 3 A (l.map stpV)) (hok : ∀ o ∈ l, OkI o) (hb : base.length ≤ 1048576) (hl : l.length ≤ 1048576) :
    Calls Try.prog 13 #[.string ⟨base.toArray⟩, .int .i64 sz, .slice A l.length ca] w (Ret w (.tuple #[.string ⟨(resA base sz l).1.toArray⟩, .int .i64 ((resA base sz l).2 : Nat)])) := by
  by_cases q : sz < 1 ∨ 65536 < sz
  · unfold resA
    rw [if_pos q]
    exact Apply_ref_bad _ base sz w q
  · obtain ⟨size, rfl⟩ := Int.eq_ofNat_of_zero_le (show 0 ≤ sz by omega)
    unfold resA
    rw [if_neg q]
    exact Apply_ref A ca l base size w hL hok (by omega) (by omega) hb (by omega)
theorem empty_own (w : World) (t : TypeId) (size : Nat) : (w.alloc (.cells #[] t)).ownsRow w.heap.size t size (.slice (some ⟨w.heap.size, 0, none⟩) 0 0) 0 [] :=
  ⟨by simp, .inr ⟨w.heap.size, 0, #[], rfl, Nat.le_refl _, heap_alloc_new w _, Nat.le_refl _, by unfold maxLen; omega, by simp, by simp⟩⟩

set_option maxRecDepth 100000 in
set_option maxHeartbeats 4000000 in
theorem DeltaApplies_any (base : List UInt8) (sz : Int) (A : Option Addr) (ca : Nat) (l : List Stp) (w : World) (hL : IsRows w 3 A (l.map stpV)) (hok : ∀ o ∈ l, OkI o) (hs : base.length ≤ 1048576) (hn : newP l ≤ 1048576) (hl2 : l.length ≤ 1048576) :
    Calls Try.prog 4 #[.string ⟨base.toArray⟩, .int .i64 sz, .slice A l.length ca] w (Ret w (.bool true)) := by
  have HAW := Lib.hid (awake_any w)
  have HL := Lib.hid hL
  obtain ⟨j0, hj, jz0, jz1, jz2⟩ := info_parts info_Op
  have HJ := Lib.hid hj
  clear hj
  by_cases q : 60 < l.length
  · have d1 : decide ((60 : Int) < (l.length : Int)) = true := decide_eq_true (by omega)
    go_enter Try.func4, Try.ntmps4
    go_wp2_with (fail)
    refine (Ret.quiet (Below.refl _ _) (HAW.out)).mono ?_
    rintro e w1 ⟨rfl, hb1⟩
    go_wp2_with (fail)
    go_ret
    exact ⟨rfl, hb1⟩
  have d1 : decide ((60 : Int) < (l.length : Int)) = false := decide_eq_false (by omega)
  cases A with
  | none =>
    have hl0 : l = [] := by
      cases l with
      | nil => rfl
      | cons o l => obtain ⟨ad, h, -⟩ := hL 0 (by simp); cases h
    clear hL
    go_enter Try.func4, Try.ntmps4
    go_wp2_with (fail)
    refine (Ret.quiet (Below.refl _ _) (HAW.out)).mono ?_
    rintro e w1 ⟨rfl, hb1⟩
    go_wp2_with (fail)
    subst hl0
    go_wp2_with (fail)
    have HB2 := Lib.hid (hb1.alloc hb1.size (.cells #[] 46))
    clear hb1
    have HRI := Lib.hid (show IsRows (w1.alloc (.cells #[] 46)) 3 (some ⟨w1.heap.size, 0, none⟩) (([] : List Stp).map stpV) from fun k hk => absurd hk (by simp))
    obtain ⟨W2, hW2⟩ : ∃ W2, W2 = w1.alloc (.cells #[] 46) := ⟨_, rfl⟩
    rw [← hW2] at HB2 HRI ⊢
    clear hW2
    refine (ApplyD_any (some ⟨w1.heap.size, 0, none⟩) 0 [] base sz W2 HRI.out hok hs hl2).mono ?_
    rintro e w3 ⟨rfl, hb3⟩
    have HRI3 := Lib.hid (HRI.out.below hb3)
    have HB3 := Lib.hid (HB2.out.trans (hb3.mono HB2.out.size))
    clear hb3 HRI HB2
    go_wp2_with (fail)
    refine (ApplyR_any none ca [] base sz w3 (HL.out.below HB3.out) hok hs hl2).mono ?_
    rintro e w4 ⟨rfl, hb4⟩
    have HRI4 := Lib.hid (HRI3.out.below hb4)
    have HB4 := Lib.hid (HB3.out.trans (hb4.mono HB3.out.size))
    clear hb4 HRI3 HB3
    generalize resA base sz [] = ra at *
    go_wp2_with (fail)
    go_loopw [12, 14, 39] (fun t12 _ t39 W => ∃ k : Nat, k ≤ ([] : List Stp).length ∧ t39 = .int .i64 (k : Nat) ∧ t12 = .int .i64 (newP (([] : List Stp).take k) : Nat) ∧ Hid (Below w4.heap.size w4 W)) (fun _ _ t39 _ => ([] : List Stp).length - (intOf t39).toNat)
    case atStart => exact ⟨0, by omega, rfl, rfl, Lib.hid (Below.refl _ _)⟩
    case round =>
      obtain ⟨k, hk, rfl, rfl, HB⟩ := hrel
      have k1 : (0 : Int) ≤ (k : Int) := by omega
      have HBW := Lib.hid (HB4.out.trans (HB.out.mono HB4.out.size))
      by_cases hlt : k < ([] : List Stp).length
      · exact absurd hlt (by simp)
      · obtain rfl : k = ([] : List Stp).length := by omega
        rw [List.take_of_length_le (Nat.le_refl _)]
        have HSM := Lib.hid (fun W h => Same_same (some ⟨w1.heap.size, 0, none⟩) none 0 ca [] W (HRI4.out.below h) (HL.out.below (HB4.out.trans (h.mono HB4.out.size))) (by omega))
        have HNW := Lib.hid (fun W h => New_any none ca [] W (HL.out.below h) (by omega) (by omega))
        go_wp2_with (fail)
        refine (HSM.out wr HB.out).mono ?_
        rintro e w5 ⟨rfl, hb5⟩
        have HB5 := Lib.hid (HBW.out.trans (hb5.mono HBW.out.size))
        clear hb5
        go_wp2_with (fail)
        refine (HNW.out w5 HB5.out).mono ?_
        rintro e w6 ⟨rfl, hb6⟩
        go_wp2_with (fail)
        go_ret
        exact ⟨by first | rfl | simp, HB5.out.trans (hb6.mono HB5.out.size)⟩
  | some ad0 =>
    have HCE := Lib.hid (rows_cells stpV_length (by omega) hL)
    clear hL
    go_enter Try.func4, Try.ntmps4
    go_wp2_with (fail)
    refine HAW.out.mono ?_
    rintro e w1 ⟨rfl, hb1⟩
    have HC1 := Lib.hid (fun j u h => (((Below.refl w1.heap.size w1).alloc (Nat.le_refl _) (.cells #[] 46)).cell (World.block_lt_of_cell? _ _ ((hb1.cell (World.block_lt_of_cell? _ _ (HCE.out j u h))).trans (HCE.out j u h)))).trans ((hb1.cell (World.block_lt_of_cell? _ _ (HCE.out j u h))).trans (HCE.out j u h)))
    have hlr := rowsE_length stpV_length l
    have HLR := Lib.hid hlr
    clear hlr
    go_wp2_with (at_builtin; refine wpList_append_two rfl _ _ 34 rfl w1.heap.size 46 j0 _ 3 32 Try.underlying34 HJ.out jz0 jz1 jz2 rfl (by decide) _ 0 [] rfl (empty_own w1 46 3) ad0 l.length ca (rowsE stpV l) rfl HLR.out HC1.out (rowsE_oneCell stpV_oneCell l) ?c3 ?c4 ?c5 ?_)
    case c3 => unfold maxLen; omega
    case c4 => omega
    case c5 => simp
    intro vi W2 hown2 hg2 hl2'
    have hin : OpsAt W2 w1.heap.size vi l := hown2
    obtain ⟨Ai, ci, hvi⟩ := hin.slice
    subst hvi
    have HRI := Lib.hid (rows_of_own hin)
    have hlow : ∀ k, (Value.slice (some ⟨w1.heap.size, 0, none⟩) 0 0).ownBlock = some k → w.heap.size ≤ k := by
      intro k hk
      have hk' : w1.heap.size = k := by injection hk
      have := hb1.size
      omega
    have HB2 := Lib.hid (show Below w.heap.size w W2 from (hb1.alloc hb1.size _).grown hg2 (by have := hb1.size; simp; omega) hlow)
    clear hlow
    clear hown2 hg2 hl2' hin hb1 HC1 HLR HCE
    go_wp2_with (fail)
    refine (ApplyD_any Ai ci l base sz W2 HRI.out hok hs hl2).mono ?_
    rintro e w3 ⟨rfl, hb3⟩
    have HRI3 := Lib.hid (HRI.out.below hb3)
    have HB3 := Lib.hid (HB2.out.trans (hb3.mono HB2.out.size))
    clear hb3 HRI HB2
    go_wp2_with (fail)
    refine (ApplyR_any (some ad0) ca l base sz w3 (HL.out.below HB3.out) hok hs hl2).mono ?_
    rintro e w4 ⟨rfl, hb4⟩
    have HRI4 := Lib.hid (HRI3.out.below hb4)
    have HB4 := Lib.hid (HB3.out.trans (hb4.mono HB3.out.size))
    clear hb4 HRI3 HB3
    generalize resA base sz l = ra at *
    go_wp2_with (fail)
    go_loopw [12, 14, 39] (fun t12 _ t39 W => ∃ k : Nat, k ≤ l.length ∧ t39 = .int .i64 (k : Nat) ∧ t12 = .int .i64 (newP (l.take k) : Nat) ∧ Hid (Below w4.heap.size w4 W)) (fun _ _ t39 _ => l.length - (intOf t39).toNat)
    case atStart => exact ⟨0, by omega, rfl, rfl, Lib.hid (Below.refl _ _)⟩
    case round =>
      obtain ⟨k, hk, rfl, rfl, HB⟩ := hrel
      have k1 : (0 : Int) ≤ (k : Int) := by omega
      have HBW := Lib.hid (HB4.out.trans (HB.out.mono HB4.out.size))
      by_cases hlt : k < l.length
      · obtain ⟨ad, had, hc0, hcs⟩ := (HL.out.below HBW.out).at_ (k := k) (by simpa using hlt)
        injection had with had
        subst had
        have hrow : (l.map stpV)[k]'(by simpa using hlt) = stpV l[k] := by simp
        rw [hrow] at hc0 hcs
        have k2 : (k : Int) < (l.length : Int) := by omega
        have hnt := newP_take hlt
        have hle := newP_take_le l (k + 1)
        generalize l[k] = x at *
        obtain ⟨f, c, t⟩ := x
        have a0 := hc0 _ rfl
        have a1 := hcs 0 _ rfl
        have a2 := hcs 1 _ rfl
        simp only at hnt
        rw [hnt] at hle
        have HNT := Lib.hid hnt
        clear hc0 hcs hrow hnt
        generalize newP (l.take k) = s0 at *
        go_wp2_with (fail)
        go_roundw
        case rel => exact ⟨k + 1, by omega, by go_num, by rw [HNT.out]; go_num, Lib.hid (HB.out.alloc HB.out.size _)⟩
        case measure => simp [intOf]; omega
      · obtain rfl : k = l.length := by omega
        rw [List.take_of_length_le (Nat.le_refl _)]
        have HSM := Lib.hid (fun W h => Same_same Ai (some ad0) ci ca l W (HRI4.out.below h) (HL.out.below (HB4.out.trans (h.mono HB4.out.size))) (by omega))
        have HNW := Lib.hid (fun W h => New_any (some ad0) ca l W (HL.out.below h) (by omega) (by omega))
        go_wp2_with (fail)
        refine (HSM.out wr HB.out).mono ?_
        rintro e w5 ⟨rfl, hb5⟩
        have HB5 := Lib.hid (HBW.out.trans (hb5.mono HBW.out.size))
        clear hb5
        go_wp2_with (fail)
        refine (HNW.out w5 HB5.out).mono ?_
        rintro e w6 ⟨rfl, hb6⟩
        go_wp2_with (fail)
        go_ret
        exact ⟨by first | rfl | simp, HB5.out.trans (hb6.mono HB5.out.size)⟩

set_option maxRecDepth 100000 in
open Go.ChangeShapes Go.WideShapes Go.ChangeAt in
/-- What the walk gives, for every argument. -/
theorem DeltaApplies_contract (H : Type) (enc : TypeId × Value → H) (W : World) (base : Nat) (args : Array Value) (ds gs : List (DataW H)) (before : List MemPlace)
    (hval : ∀ (j : Nat) t v, Try.f4.params[j]? = some t → args[j]? = some v → Value.okWide Try.prog W .any base t v)
    (hW : DataW.Whole enc Try.prog Try.f4.params.toList Rows.deltaAppliesSpec.vars false W args.toList ds gs before) (hk : Rows.uptoSmall H (ds ++ gs) = true) :
    Calls Try.prog 4 args W fun e W' => ∃ v, e = .returned v ∧ Rows.deltaAppliesSpec.post enc Try.prog Try.f4 false true false false W args v W' := by
  have hW' := hW
  obtain ⟨p, q, hA0, hV, rfl, hfz, hnd⟩ := hW
  have hA : DataW.TrodAll enc Try.prog W 0 (fun _ => true) true Try.f4.params.toList args.toList ds p := hA0
  rw [Try.params4] at hA hval
  obtain ⟨v0, vs0, d0, ds0, p0, q0, hargs, rfl, rfl, h0, r0⟩ := trodAll_cons hA
  obtain ⟨v1, vs1, d1, ds1, p1, q1, rfl, rfl, rfl, h1, r1⟩ := trodAll_cons r0
  obtain ⟨v2, vs2, d2, ds2, p2, q2, rfl, rfl, rfl, h2, r2⟩ := trodAll_cons r1
  obtain ⟨rfl, rfl, rfl⟩ := trodAll_nil r2
  obtain rfl : args = #[v0, v1, v2] := by cases args; simp_all
  obtain ⟨rfl, rfl⟩ := trodVars_none hV
  obtain ⟨x0, rfl, rfl, rfl, k0⟩ := ChangeMaps.open_string Try.underlying9 (hval 0 9 v0 rfl rfl) h0
  have k0 : x0.data.toList.length ≤ 9223372036854775807 := by unfold maxLen at k0; simpa using k0
  obtain ⟨x1, rfl, rfl, rfl, k1⟩ := open_int Try.underlying3 (hval 1 3 v1 rfl rfl) h1
  have k1 := bounds_i64 k1
  obtain ⟨A2, c2, x2, rfl, hc2, hm2, k2, ks2, kd2⟩ := open_stps (hval 2 34 v2 rfl rfl) h2
  clear hA0
  have hbulk := bulk_bound hk
  simp only [List.cons_append, List.nil_append, List.append_nil, Rows.uptoBulkAll] at hbulk
  have hsn := newP_sum x2
  simp only [Rows.uptoBulk] at hbulk
  refine (DeltaApplies_any x0.data.toList x1 A2 c2 x2 W k2 (fun o ho => by
    obtain ⟨h1, h2, h3, h4⟩ := ks2 o ho
    have := sum_mem x2 o ho
    exact ⟨h1, h2, h3, h4, by omega⟩) (by omega) (by omega) (by omega)).mono ?_
  exact fun e W' ⟨he, hb⟩ => ⟨_, he, law_post rfl hW' rfl (by kernel_rfl) Try.underlying4 (by kernel_rfl) laidOut hb⟩

open Go.ChangeShapes Go.WideShapes Go.ChangeAt in
set_option maxRecDepth 100000 in
theorem DeltaApplies_lifted (os : Os) (started : os.Started) (H : Type) (enc : TypeId × Value → H) (F : Stop.Interp) :
    ReturnsInHanded {} Try.checked os 4 .any ((Rows.OpenSpec.upto Rows.deltaAppliesSpec).pre6 enc Try.prog Try.f4 Rows.deltaAppliesUptoRow.domain false) (((Rows.OpenSpec.upto Rows.deltaAppliesSpec).at F).post enc Try.prog Try.f4 false true false false) := by
  refine returnsInHanded_of_cond (C := Try.checked) (s := Rows.OpenSpec.upto Rows.deltaAppliesSpec) (k := Rows.uptoSmall) rfl own started (by kernel_rfl) Try.func4
    (OpenSpec.witness (enc := enc) (C := Try.checked) (s := Rows.OpenSpec.upto Rows.deltaAppliesSpec) (k := Rows.uptoSmall) rfl false ⟨#[], #[.string ⟨#[]⟩, .int .i64 0, .slice none 0 0], []⟩ 8 (by kernel_rfl) (by kernel_rfl) (by kernel_rfl)
      (x := ([.lit (.string []), .lit (.int .i64 0), .nil], [], [])) (by kernel_rfl) rfl (by kernel_rfl)) ?_
  intro W base args ds gs before hval hW _ hk _
  exact DeltaApplies_contract H enc W base args ds gs before hval hW hk

theorem DeltaApplies_holds : Rows.DeltaAppliesUptoSaid :=
  OpenClaim.holds_of_cond 4 Try.f4 rfl rfl rfl rfl rfl rfl rfl ⟨rfl, rfl, rfl, rfl, rfl⟩ rfl rfl rfl rfl rfl (by kernel_rfl) Try.func4 (by kernel_rfl)
    (of_decide_eq_true (by kernel_rfl)) (by unfold Func.isWrapper; first | (rw [if_pos (by decide +kernel)]; kernel_rfl) | (rw [if_neg (by decide +kernel)]; exact ⟨rfl, rfl⟩))
    (fun os started H enc _ F => DeltaApplies_lifted os started H enc F)
end Go.Proofs.Ytgohhhfnffhgmaa
