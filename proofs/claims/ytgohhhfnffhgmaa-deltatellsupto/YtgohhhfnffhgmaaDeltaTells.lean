/- hawserlaw14.DeltaTells: what is told of blocks, and the steps that are made, are the document's. Its condition: what it reads is of bulk at most 1048576. -/
import Derived.Test.YtgohhhfnffhgmaaDeltaApplies
import Derived.Test.YtgohhhfnffhgmaaAppendSlice
namespace Go.Proofs.Ytgohhhfnffhgmaa
open Go.RowKit Go.ChangeShapes Go.WideShapes Go.ChangeAt Plain

def resS (base : List UInt8) (sz : Int) : List Blk := if sz < 1 ∨ 65536 < sz then [] else signP base sz.toNat
def resE (sz : Int) : Nat := if sz < 1 ∨ 65536 < sz then 2 else 0
def resM (data : List UInt8) (l : List Blk) (sz : Int) : List Stp := if sz < 1 ∨ 65536 < sz then [] else makeP data l sz.toNat
theorem SignD_any (base : List UInt8) (sz : Int) (w : World) (hl : base.length ≤ 1048576) :
    Calls Try.prog 7 #[.string ⟨base.toArray⟩, .int .i64 sz] w fun e w' => ∃ v, e = .returned (.tuple #[v, .int .i64 (resE sz : Nat)]) ∧ BlksAt w' w.heap.size v (resS base sz) ∧ Below w.heap.size w w' := by
  by_cases q : sz < 1 ∨ 65536 < sz
  · unfold resE resS
    rw [if_pos q, if_pos q]
    refine (Sign_bad base sz w q).mono ?_
    rintro e w1 ⟨rfl, hb⟩
    exact ⟨_, rfl, World.ownsRow_nil _ _ _ _, hb⟩
  · obtain ⟨size, rfl⟩ := Int.eq_ofNat_of_zero_le (show 0 ≤ sz by omega)
    unfold resE resS
    rw [if_neg q, if_neg q]
    exact Sign_any base size w (by omega) (by omega) hl
theorem SignR_any (base : List UInt8) (sz : Int) (w : World) (hl : base.length ≤ 1048576) :
    Calls Try.prog 8 #[.string ⟨base.toArray⟩, .int .i64 sz] w fun e w' => ∃ v, e = .returned (.tuple #[v, .int .i64 (resE sz : Nat)]) ∧ BlksAt w' w.heap.size v (resS base sz) ∧ Below w.heap.size w w' := by
  by_cases q : sz < 1 ∨ 65536 < sz
  · unfold resE resS
    rw [if_pos q, if_pos q]
    refine (Sign_ref_bad base sz w q).mono ?_
    rintro e w1 ⟨rfl, hb⟩
    exact ⟨_, rfl, World.ownsRow_nil _ _ _ _, hb⟩
  · obtain ⟨size, rfl⟩ := Int.eq_ofNat_of_zero_le (show 0 ≤ sz by omega)
    unfold resE resS
    rw [if_neg q, if_neg q]
    exact Sign_ref base size w (by omega) (by omega) hl
theorem MakeD_any (base : Nat) (lv : Value) (l : List Blk) (data : List UInt8) (sz : Int) (w : World) (hL : BlksAt w base lv l) (hd : data.length ≤ 1048576) (hl : l.length ≤ 4294967296) (hb32 : ∀ b ∈ l, b.w < 4294967296) :
    Calls Try.prog 9 #[.string ⟨data.toArray⟩, lv, .int .i64 sz] w fun e w' => ∃ v, e = .returned (.tuple #[v, .int .i64 (resE sz : Nat)]) ∧ OpsAt w' w.heap.size v (resM data l sz) ∧ Below w.heap.size w w' := by
  by_cases q : sz < 1 ∨ 65536 < sz
  · unfold resE resM
    rw [if_pos q, if_pos q]
    refine (Make_bad _ data sz w q).mono ?_
    rintro e w1 ⟨rfl, hb⟩
    exact ⟨_, rfl, World.ownsRow_nil _ _ _ _, hb⟩
  · obtain ⟨size, rfl⟩ := Int.eq_ofNat_of_zero_le (show 0 ≤ sz by omega)
    unfold resE resM
    rw [if_neg q, if_neg q]
    exact Make_any base lv l data size w hL (by omega) (by omega) hd hl hb32
theorem MakeR_any (base : Nat) (lv : Value) (l : List Blk) (data : List UInt8) (sz : Int) (w : World) (hL : BlksAt w base lv l) (hd : data.length ≤ 1048576) (hl : l.length ≤ 4294967296) (hb32 : ∀ b ∈ l, b.w < 4294967296) :
    Calls Try.prog 10 #[.string ⟨data.toArray⟩, lv, .int .i64 sz] w fun e w' => ∃ v, e = .returned (.tuple #[v, .int .i64 (resE sz : Nat)]) ∧ OpsAt w' w.heap.size v (resM data l sz) ∧ Below w.heap.size w w' := by
  by_cases q : sz < 1 ∨ 65536 < sz
  · unfold resE resM
    rw [if_pos q, if_pos q]
    refine (Make_ref_bad _ data sz w q).mono ?_
    rintro e w1 ⟨rfl, hb⟩
    exact ⟨_, rfl, World.ownsRow_nil _ _ _ _, hb⟩
  · obtain ⟨size, rfl⟩ := Int.eq_ofNat_of_zero_le (show 0 ≤ sz by omega)
    unfold resE resM
    rw [if_neg q, if_neg q]
    exact Make_ref base lv l data size w hL (by omega) (by omega) hd hl hb32
theorem resS_w (base : List UInt8) (sz : Int) : ∀ b ∈ resS base sz, b.w < 4294967296 := by
  unfold resS
  split
  · intro b hb; cases hb
  · exact told_w
theorem resS_len (base : List UInt8) (sz : Int) : (resS base sz).length ≤ base.length := by
  unfold resS
  split
  · simp
  · exact sign_len (by omega)
theorem resM_len (data : List UInt8) (l : List Blk) (sz : Int) : (resM data l sz).length ≤ data.length := by
  unfold resM
  split
  · simp
  · exact make_len (by omega)

set_option maxRecDepth 100000 in
set_option maxHeartbeats 4000000 in
theorem DeltaTells_any (base data : List UInt8) (sz : Int) (A : Option Addr) (ca : Nat) (bl : List Blk) (w : World) (hL : IsRows w 3 A (bl.map blkV)) (hw : ∀ b ∈ bl, b.w < 4294967296) (hb : base.length ≤ 9223372036854775807) (hd : data.length ≤ 9223372036854775807) (hl2 : bl.length ≤ 1048576) (hca : bl.length ≤ ca) :
    Calls Try.prog 3 #[.string ⟨base.toArray⟩, .string ⟨data.toArray⟩, .agg #[.int .i64 sz, .slice A bl.length ca]] w (Ret w (.bool true)) := by
  have HAW := Lib.hid (fun W => awake_any W)
  have HL := Lib.hid hL
  obtain ⟨j0, hj, jz0, jz1, jz2⟩ := info_parts info_Block
  have HJ := Lib.hid hj
  clear hj hL
  by_cases q1 : 300 < base.length
  · have d1 : decide ((300 : Int) < (base.length : Int)) = true := decide_eq_true (by omega)
    go_enter Try.func3, Try.ntmps3
    go_wp2_with (fail)
    refine (HAW.out _).mono ?_
    rintro e w1 ⟨rfl, hb1⟩
    go_wp2_with (fail)
    go_ret
    exact ⟨rfl, (below_alloc' w _).trans (hb1.mono (by simp))⟩
  have d1 : decide ((300 : Int) < (base.length : Int)) = false := decide_eq_false (by omega)
  by_cases q2 : 300 < data.length
  · have d2 : decide ((300 : Int) < (data.length : Int)) = true := decide_eq_true (by omega)
    go_enter Try.func3, Try.ntmps3
    go_wp2_with (fail)
    refine (HAW.out _).mono ?_
    rintro e w1 ⟨rfl, hb1⟩
    go_wp2_with (fail)
    go_ret
    exact ⟨rfl, (below_alloc' w _).trans (hb1.mono (by simp))⟩
  have d2 : decide ((300 : Int) < (data.length : Int)) = false := decide_eq_false (by omega)
  have hsl := resS_len base sz
  have hsw := resS_w base sz
  have HSD := Lib.hid (fun W => SignD_any base sz W (by omega))
  have HSR := Lib.hid (fun W => SignR_any base sz W (by omega))
  generalize resS base sz = S at *
  have HMD := Lib.hid (fun b lv L W h h1 h2 => MakeD_any b lv L data sz W h (by omega) h1 h2)
  have HMR := Lib.hid (fun b lv L W h h1 h2 => MakeR_any b lv L data sz W h (by omega) h1 h2)
  have HML := Lib.hid (fun L => resM_len data L sz)
  generalize resE sz = E at *
  go_enter Try.func3, Try.ntmps3
  go_wp2_with (fail)
  refine (HAW.out _).mono ?_
  rintro e w1 ⟨rfl, hb1⟩
  have hx1 := (hb1.block w.heap.size (by simp)).trans (heap_alloc_new w _)
  have HX1 := Lib.hid hx1
  have x0 := cell_of_row w1 w.heap.size 0 _ _ _ hx1
  have x1 := cell_of_row w1 w.heap.size 1 _ _ _ hx1
  simp at x0 x1
  have HB1 := Lib.hid ((below_alloc' w _).trans (hb1.mono (by simp)))
  have hs1 : w.heap.size < w1.heap.size := by have := hb1.size; simp at this; omega
  clear hx1 hb1
  go_wp2_with (fail)
  refine (HSD.out w1).mono ?_
  rintro e w2 ⟨v2, rfl, hv2, hb2⟩
  obtain ⟨A2, c2, hvv⟩ := hv2.slice
  subst hvv
  have hc2 : S.length ≤ c2 := by
    obtain ⟨A', c', he, hc, -⟩ := IsSlice.of_own hv2
    injection he with h1 h2 h3
    omega
  have HV2 := Lib.hid hv2
  have HB2 := Lib.hid (HB1.out.trans (hb2.mono HB1.out.size))
  have x0' := (hb2.cell (p := ⟨w.heap.size, 0, none⟩) hs1).trans x0
  have x1' := (hb2.cell (p := ⟨w.heap.size, 1, none⟩) hs1).trans x1
  have hs2 := hb2.size
  clear hv2 hb2 x0 x1 HSD
  go_wp2_with (fail)
  refine (HSR.out w2).mono ?_
  rintro e w3 ⟨v3, rfl, hv3, hb3⟩
  obtain ⟨A3, c3, hvv⟩ := hv3.slice
  subst hvv
  have HV3 := Lib.hid hv3
  have HB3 := Lib.hid (HB2.out.trans (hb3.mono HB2.out.size))
  have HV2' := Lib.hid (HV2.out.below hb3)
  have x0 := (hb3.cell (p := ⟨w.heap.size, 0, none⟩) (by show w.heap.size < _; omega)).trans x0'
  have x1 := (hb3.cell (p := ⟨w.heap.size, 1, none⟩) (by show w.heap.size < _; omega)).trans x1'
  have hs3 := hb3.size
  clear hv3 hb3 x0' x1' HSR HB2 HV2
  have HX := Lib.hid (And.intro x0 x1)
  clear x0 x1
  go_wp2_with (fail)
  go_loopw [11, 53] (fun _ t53 W => ∃ k : Nat, k ≤ S.length ∧ t53 = .int .i64 (k : Nat) ∧ Hid (Below w3.heap.size w3 W)) (fun _ t53 _ => S.length - (intOf t53).toNat)
  case atStart => exact ⟨0, by omega, rfl, Lib.hid (Below.refl _ _)⟩
  case round =>
    obtain ⟨k, hk, rfl, HB⟩ := hrel
    have k1 : (0 : Int) ≤ (k : Int) := by omega
    by_cases hlt : k < S.length
    · obtain ⟨g2, rfl, -, -, a0, a1, a2⟩ := (HV2'.out.below HB.out).at_ hlt
      obtain ⟨g3, rfl, -, -, b0, b1, b2⟩ := (HV3.out.below HB.out).at_ hlt
      have k2 : (k : Int) < (S.length : Int) := by omega
      generalize S[k] = x at *
      obtain ⟨bw, bs, bn⟩ := x
      simp only at a0 a1 a2 b0 b1 b2
      go_wp2_with (fail)
      go_quiet (fail)
      go_wp2_with (fail)
      all_goals first | exact ⟨⟨k + 1, by omega, by go_num, Lib.hid (below_drewN HB.out _)⟩, by simp [intOf]; omega⟩ | (go_roundw <;> first | exact ⟨k + 1, by omega, by go_num, Lib.hid (below_drewN HB.out _)⟩ | (simp [intOf]; omega))
    · obtain rfl : k = S.length := by omega
      have HB4 := Lib.hid (HB3.out.trans (HB.out.mono HB3.out.size))
      have hx4 : wr.cell? ⟨w.heap.size, 0, none⟩ = some (.int .i64 sz) ∧ wr.cell? ⟨w.heap.size, 1, none⟩ = some (.slice A bl.length ca) := ⟨(HB.out.cell (p := ⟨w.heap.size, 0, none⟩) (by show w.heap.size < _; omega)).trans HX.out.1, (HB.out.cell (p := ⟨w.heap.size, 1, none⟩) (by show w.heap.size < _; omega)).trans HX.out.2⟩
      obtain ⟨y0, y1⟩ := hx4
      have hV4 : wr.ownsRow w1.heap.size 33 3 (.slice A2 S.length c2) S.length (rowsE blkV S) := HV2'.out.below HB.out
      have hRd : Reads wr 3 A bl.length (rowsE blkV bl) := by
        refine ⟨rowsE_length blkV_length bl, fun h0 => ?_⟩
        obtain ⟨ad, hA, -⟩ := HL.out 0 (by simpa using h0)
        subst hA
        exact ⟨ad, rfl, fun j u hu => (HB4.out.cell (World.block_lt_of_cell? _ _ (rows_cells blkV_length (by omega) HL.out j u hu))).trans (rows_cells blkV_length (by omega) HL.out j u hu)⟩
      have HRD := Lib.hid hRd
      have HV4 := Lib.hid hV4
      have hs4 := HB.out.size
      clear hRd hV4
      go_wp2_with (at_builtin; refine wpList_append_slice rfl _ _ 22 rfl w1.heap.size 33 j0 _ 3 32 Try.underlying22 HJ.out jz0 jz1 jz2 rfl (by decide) A2 S.length c2 _ rfl HV4.out A bl.length ca (rowsE blkV bl) rfl HRD.out (rowsE_oneCell blkV_oneCell bl) ?c3 ?c4 ?c5 ?_)
      case c3 => unfold maxLen; omega
      case c4 => omega
      case c5 => omega
      intro A5 c5 w5 hown5 hg5
      have hL5 : BlksAt w5 w1.heap.size (.slice A5 (S.length + bl.length) c5) (S ++ bl) := by
        unfold BlksAt
        rw [rowsE_append, List.length_append]
        exact hown5
      have hlow : ∀ k, (Value.slice A2 S.length c2).ownBlock = some k → w1.heap.size ≤ k := fun k hk => (HV4.out.lt k hk).1
      have hb5 : Below w1.heap.size wr w5 := (Below.refl _ _).grown hg5 (by omega) hlow
      have y0' := (hb5.cell (p := ⟨w.heap.size, 0, none⟩) (by show w.heap.size < _; omega)).trans y0
      have HB5 := Lib.hid (HB4.out.trans (hb5.mono (by omega)))
      have hlen : (S ++ bl).length = S.length + bl.length := List.length_append
      have hw2 : ∀ b ∈ S ++ bl, b.w < 4294967296 := fun b hb => by
        rcases List.mem_append.1 hb with h | h
        · exact hsw b h
        · exact hw b h
      have hs5 := hb5.size
      rw [← hlen] at hL5
      have HL5 := Lib.hid hL5
      have HLEN := Lib.hid hlen
      have hll : (S ++ bl).length ≤ 2000000 := by omega
      rw [← hlen]
      clear hown5 hg5 hlow hb5 hL5 y0 y1 hlen HV4 HRD HB4 HX
      generalize S ++ bl = L at *
      have hRd5 := Reads.of_own (show w5.ownsRow w1.heap.size 33 3 (.slice A5 L.length c5) L.length (rowsE blkV L) from HL5.out)
      have HRD5 := Lib.hid (hRd5.below (below_alloc' w5 (.cells #[] 33)))
      clear hRd5
      go_wp2_with (at_builtin; refine wpList_append_slice rfl _ _ 22 rfl w5.heap.size 33 j0 _ 3 32 Try.underlying22 HJ.out jz0 jz1 jz2 rfl (by decide) (some ⟨w5.heap.size, 0, none⟩) 0 0 [] rfl (empty_own w5 33 3) A5 L.length c5 (rowsE blkV L) rfl HRD5.out (rowsE_oneCell blkV_oneCell L) ?c3 ?c4 ?c5 ?_)
      case c3 => unfold maxLen; omega
      case c4 => omega
      case c5 => simp
      intro A6 c6 w6 hown6 hg6
      have hL6 : BlksAt w6 w5.heap.size (.slice A6 L.length c6) L := by
        unfold BlksAt
        simpa using hown6
      have hb6 : Below w5.heap.size w5 w6 := ((Below.refl _ _).alloc (Nat.le_refl _) _).grown hg6 (by simp) (fun k hk => by
        have hk' : w5.heap.size = k := by injection hk
        omega)
      have HL6 := Lib.hid hL6
      have HL5b := Lib.hid (HL5.out.below hb6)
      have HB6 := Lib.hid (HB5.out.trans (hb6.mono HB5.out.size))
      have y0 := (hb6.cell (p := ⟨w.heap.size, 0, none⟩) (by show w.heap.size < _; omega)).trans y0'
      have hs6 := hb6.size
      clear hown6 hg6 hL6 hb6 HL5 HB5 HRD5 y0'
      have Y0 := Lib.hid y0
      go_wp2_with (fail)
      refine (HMD.out _ _ L w6 HL6.out (by omega) hw2).mono ?_
      rintro e w7 ⟨v7, rfl, hv7, hb7⟩
      obtain ⟨A7, c7, hvv⟩ := hv7.slice
      subst hvv
      have HV7 := Lib.hid hv7
      have HL7 := Lib.hid (HL6.out.below hb7)
      have HL7b := Lib.hid (HL5b.out.below hb7)
      have HB7 := Lib.hid (HB6.out.trans (hb7.mono HB6.out.size))
      have z0 := (hb7.cell (p := ⟨w.heap.size, 0, none⟩) (by show w.heap.size < _; omega)).trans Y0.out
      clear hv7 hb7 HL6 HL5b HB6 y0 Y0 HMD
      go_wp2_with (fail)
      refine (HMR.out _ _ L w7 HL7b.out (by omega) hw2).mono ?_
      rintro e w8 ⟨v8, rfl, hv8, hb8⟩
      obtain ⟨A8, c8, hvv⟩ := hv8.slice
      subst hvv
      have HV8 := Lib.hid hv8
      have HV7b := Lib.hid (HV7.out.below hb8)
      have HL8 := Lib.hid (HL7.out.below hb8)
      have HL8b := Lib.hid (HL7b.out.below hb8)
      have HB8 := Lib.hid (HB7.out.trans (hb8.mono HB7.out.size))
      have hmlen := HML.out L
      clear hv8 hb8 HL7 HL7b HB7 HV7 z0 HMR HML
      generalize resM data L sz = R at *
      go_wp2_with (fail)
      go_loopw [16, 91] (fun _ t91 W => ∃ k : Nat, k ≤ L.length ∧ t91 = .int .i64 (k : Nat) ∧ Hid (Below w8.heap.size w8 W)) (fun _ t91 _ => L.length - (intOf t91).toNat)
      case atStart => exact ⟨0, by omega, rfl, Lib.hid (Below.refl _ _)⟩
      case round =>
        obtain ⟨k, hk, rfl, HB'⟩ := hrel
        have k1 : (0 : Int) ≤ (k : Int) := by omega
        by_cases hlt : k < L.length
        · obtain ⟨g6, rfl, -, -, a0, a1, a2⟩ := (HL8.out.below HB'.out).at_ hlt
          obtain ⟨g5, rfl, -, -, b0, b1, b2⟩ := (HL8b.out.below HB'.out).at_ hlt
          have k2 : (k : Int) < (L.length : Int) := by omega
          generalize L[k] = x at *
          obtain ⟨bw, bs, bn⟩ := x
          simp only at a0 a1 a2 b0 b1 b2
          go_wp2_with (fail)
          go_quiet (fail)
          go_wp2_with (fail)
          all_goals first | exact ⟨⟨k + 1, by omega, by go_num, Lib.hid (below_drewN HB'.out _)⟩, by simp [intOf]; omega⟩ | (go_roundw <;> first | exact ⟨k + 1, by omega, by go_num, Lib.hid (below_drewN HB'.out _)⟩ | (simp [intOf]; omega))
        · obtain rfl : k = L.length := by omega
          have HSM := Lib.hid (Same_same A7 A8 c7 c8 R _ (rows_of_own (HV7b.out.below HB'.out)) (rows_of_own (HV8.out.below HB'.out)) (by omega))
          have HBW := Lib.hid (HB8.out.trans (HB'.out.mono HB8.out.size))
          go_wp2_with (fail)
          refine HSM.out.mono ?_
          rintro e w9 ⟨rfl, hb9⟩
          go_wp2_with (fail)
          go_ret
          exact ⟨by first | rfl | simp, HBW.out.trans (hb9.mono HBW.out.size)⟩

set_option maxRecDepth 100000 in
open Go.ChangeShapes Go.WideShapes Go.ChangeAt in
/-- What the walk gives, for every argument. -/
theorem DeltaTells_contract (H : Type) (enc : TypeId × Value → H) (W : World) (base : Nat) (args : Array Value) (ds gs : List (DataW H)) (before : List MemPlace)
    (hval : ∀ (j : Nat) t v, Try.f3.params[j]? = some t → args[j]? = some v → Value.okWide Try.prog W .any base t v)
    (hW : DataW.Whole enc Try.prog Try.f3.params.toList Rows.deltaTellsSpec.vars false W args.toList ds gs before) (hk : Rows.uptoSmall H (ds ++ gs) = true) :
    Calls Try.prog 3 args W fun e W' => ∃ v, e = .returned v ∧ Rows.deltaTellsSpec.post enc Try.prog Try.f3 false true false false W args v W' := by
  have hW' := hW
  obtain ⟨p, q, hA0, hV, rfl, hfz, hnd⟩ := hW
  have hA : DataW.TrodAll enc Try.prog W 0 (fun _ => true) true Try.f3.params.toList args.toList ds p := hA0
  rw [Try.params3] at hA hval
  obtain ⟨v0, vs0, d0, ds0, p0, q0, hargs, rfl, rfl, h0, r0⟩ := trodAll_cons hA
  obtain ⟨v1, vs1, d1, ds1, p1, q1, rfl, rfl, rfl, h1, r1⟩ := trodAll_cons r0
  obtain ⟨v2, vs2, d2, ds2, p2, q2, rfl, rfl, rfl, h2, r2⟩ := trodAll_cons r1
  obtain ⟨rfl, rfl, rfl⟩ := trodAll_nil r2
  obtain rfl : args = #[v0, v1, v2] := by cases args; simp_all
  obtain ⟨rfl, rfl⟩ := trodVars_none hV
  obtain ⟨x0, rfl, rfl, rfl, k0⟩ := ChangeMaps.open_string Try.underlying9 (hval 0 9 v0 rfl rfl) h0
  have k0 : x0.data.toList.length ≤ 9223372036854775807 := by unfold maxLen at k0; simpa using k0
  obtain ⟨x1, rfl, rfl, rfl, k1⟩ := ChangeMaps.open_string Try.underlying9 (hval 1 9 v1 rfl rfl) h1
  have k1 : x1.data.toList.length ≤ 9223372036854775807 := by unfold maxLen at k1; simpa using k1
  obtain ⟨xa2, xb2, ya2, yb2, fu2, rfl, rfl, rfl, ha2, hb2⟩ := Go.Joins.open_agg2 Try.underlying24 (by kernel_rfl) (by kernel_rfl) (hval 2 24 v2 rfl rfl) h2
  obtain ⟨a2, ea2, rfl, ka2⟩ := DataW.trod_int Try.underlying3 ha2
  obtain ⟨A2, c2, x2, eb2, hc2, hm2, ks2, kw2, kd2⟩ := open_blks ⟨fu2, hb2⟩
  simp only [List.cons.injEq, and_true] at ea2
  subst ea2 eb2
  clear hA0
  have hbulk := bulk_bound hk
  simp only [List.cons_append, List.nil_append, List.append_nil, Rows.uptoBulkAll] at hbulk
  simp only [Rows.uptoBulk, Rows.uptoBulkAll] at hbulk
  have hsl := sum_ge x2 (fun _ => 1) (by simp)
  refine (DeltaTells_any x0.data.toList x1.data.toList a2 A2 c2 x2 W ks2 kw2 (by omega) (by omega) (by omega) hc2).mono ?_
  exact fun e W' ⟨he, hb⟩ => ⟨_, he, law_post rfl hW' rfl (by kernel_rfl) Try.underlying4 (by kernel_rfl) laidOut hb⟩

open Go.ChangeShapes Go.WideShapes Go.ChangeAt in
set_option maxRecDepth 100000 in
theorem DeltaTells_lifted (os : Os) (started : os.Started) (H : Type) (enc : TypeId × Value → H) (F : Stop.Interp) :
    ReturnsInHanded {} Try.checked os 3 .any ((Rows.OpenSpec.upto Rows.deltaTellsSpec).pre6 enc Try.prog Try.f3 Rows.deltaTellsUptoRow.domain false) (((Rows.OpenSpec.upto Rows.deltaTellsSpec).at F).post enc Try.prog Try.f3 false true false false) := by
  refine returnsInHanded_of_cond (C := Try.checked) (s := Rows.OpenSpec.upto Rows.deltaTellsSpec) (k := Rows.uptoSmall) rfl own started (by kernel_rfl) Try.func3
    (OpenSpec.witness (enc := enc) (C := Try.checked) (s := Rows.OpenSpec.upto Rows.deltaTellsSpec) (k := Rows.uptoSmall) rfl false ⟨#[], #[.string ⟨#[]⟩, .string ⟨#[]⟩, .agg #[.int .i64 0, .slice none 0 0]], []⟩ 8 (by kernel_rfl) (by kernel_rfl) (by kernel_rfl)
      (x := ([.lit (.string []), .lit (.string []), .agg [.lit (.int .i64 0), .nil]], [], [])) (by kernel_rfl) rfl (by kernel_rfl)) ?_
  intro W base args ds gs before hval hW _ hk _
  exact DeltaTells_contract H enc W base args ds gs before hval hW hk

theorem DeltaTells_holds : Rows.DeltaTellsUptoSaid :=
  OpenClaim.holds_of_cond 3 Try.f3 rfl rfl rfl rfl rfl rfl rfl ⟨rfl, rfl, rfl, rfl, rfl⟩ rfl rfl rfl rfl rfl (by kernel_rfl) Try.func3 (by kernel_rfl)
    (of_decide_eq_true (by kernel_rfl)) (by unfold Func.isWrapper; first | (rw [if_pos (by decide +kernel)]; kernel_rfl) | (rw [if_neg (by decide +kernel)]; exact ⟨rfl, rfl⟩))
    (fun os started H enc _ F => DeltaTells_lifted os started H enc F)
end Go.Proofs.Ytgohhhfnffhgmaa
