/- The document's Sign: blocks, Sums, Sign. -/
import Derived.Test.YtgohhhfnffhgmaaDelta2
import Derived.Test.YtgohhhfnffhgmaaBigWalk6
import Derived.Test.YtgohhhfnffhgmaaHashRef4
import Derived.Test.YtgohhhfnffhgmaaQuietRest
import Derived.Deep.AppendLies
namespace Go.Proofs.Ytgohhhfnffhgmaa
open Go.RowKit Plain

theorem info_str : (Try.prog.info? 9).map (fun i => (i.zero, i.size, i.bytes)) = some (some (.string ⟨#[]⟩), 1, 16) := by kernel_rfl
theorem blocksP_length (s : List UInt8) (size : Nat) : (blocksP s size).length = countB s.length size := by simp [blocksP]
theorem blocksP_take {s : List UInt8} {size k : Nat} (h : k < countB s.length size) : (blocksP s size).take (k + 1) = (blocksP s size).take k ++ [blockP s size k] := by
  have hl := blocksP_length s size
  rw [List.take_succ_eq_append_getElem (by omega)]
  congr 2
  simp [blocksP]

set_option maxRecDepth 100000 in
set_option maxHeartbeats 2000000 in
theorem blocks_any (s : List UInt8) (size : Nat) (w : World) (hs : 1 ≤ size) (hs2 : size ≤ 65536) (hl : s.length ≤ 1048576) :
    Calls Try.prog 19 #[.string ⟨s.toArray⟩, .int .i64 (size : Nat)] w fun e w' => ∃ v, e = .returned v ∧ w'.ownsRow w.heap.size 9 1 v (blocksP s size).length (strs (blocksP s size)) ∧ Below w.heap.size w w' := by
  obtain ⟨i0, hi, hz0, hz1, hz2⟩ := info_parts info_str
  have hN := countB_le (n := s.length) hs
  have hNl := blocksP_length s size
  have hcl := fun i => countB_lt (n := s.length) (i := i) hs
  have HCL := Lib.hid hcl
  have HI := Lib.hid hi
  clear hi hcl
  go_enter Try.func19, Try.ntmps19
  go_wp2_with (fail)
  go_loopw [5, 6] (fun t5 t6 W => ∃ k : Nat, k ≤ countB s.length size ∧ t6 = .int .i64 (k * size : Nat) ∧ Hid (W.ownsRow w.heap.size 9 1 t5 k (strs ((blocksP s size).take k))) ∧ Hid (Below w.heap.size w W)) (fun _ t6 _ => (s.length + size) - (intOf t6).toNat)
  case atStart => exact ⟨0, by omega, by simp, Lib.hid (World.ownsRow_nil _ _ _ _), Lib.hid (Below.refl _ _)⟩
  case round =>
    obtain ⟨k, hk, rfl, HO, HB⟩ := hrel
    have hk4 : k ≤ 1048576 := by omega
    have hks : k * size ≤ 1048576 * 65536 := Nat.mul_le_mul hk4 hs2
    by_cases hlt : k < countB s.length size
    · have hkb := (HCL.out k).1 hlt
      have htk := blocksP_take hlt
      have hmul : (k + 1) * size = k * size + size := by rw [Nat.add_mul]; omega
      obtain ⟨P, hP⟩ : ∃ P, P = k * size := ⟨_, rfl⟩
      have e3 : blockP s size k = (s.drop P).take (min (P + size) s.length - P) := by
        unfold blockP
        rw [← hP]
        by_cases q : P + size ≤ s.length
        · rw [Nat.min_eq_left q]; congr 1; omega
        · rw [Nat.min_eq_right (by omega), List.take_of_length_le (by simp; omega), List.take_of_length_le (by simp)]
      rw [e3] at htk
      rw [← hP] at hkb hks hmul ⊢
      have hPmul := Lib.hid hmul
      have HP := Lib.hid hP
      obtain ⟨E, hE, hE1, hE2⟩ : ∃ E, E = min (P + size) s.length ∧ P ≤ E ∧ E ≤ s.length := ⟨_, rfl, by omega, by omega⟩
      rw [← hE] at htk
      have HT := Lib.hid htk
      have hminA : (min ((P : Int) + size) s.length).toNat = E := by omega
      have hminB : min ((P : Int) + size) s.length = E := by omega
      have htl : ((blocksP s size).take k).length = k := by rw [List.length_take, hNl]; omega
      have HE := Lib.hid hE
      clear htk e3 hP hE hmul
      go_wp2_with (at_builtin; refine wpList_append_two rfl _ _ 54 rfl w.heap.size 9 i0 _ 1 16 Try.underlying54 HI.out hz0 hz1 hz2 rfl (by decide) _ _ _ rfl (HO.out.alloc _) ⟨wr.heap.size, 0, none⟩ 1 1 [.string ⟨((s.drop P).take (E - P)).toArray⟩] rfl rfl (laid_one _ _ _) (one_oneCell rfl) ?c3 ?c4 ?c5 ?_)
      case c3 => unfold maxLen; omega
      case c4 => omega
      case c5 => have := HB.out.size; simp; omega
      intro v1 w5 hown5 hg5 hl5
      have hb5 : Below w.heap.size w w5 := (HB.out.alloc HB.out.size _).grown hg5 (by have := HB.out.size; simp; omega) (fun k hk => (HO.out.lt k hk).1)
      have hown6 : w5.ownsRow w.heap.size 9 1 v1 (k + 1) (strs ((blocksP s size).take (k + 1))) := by
        rw [HT.out, strs_append]; exact hown5
      have HO5 := Lib.hid hown6
      have HB5 := Lib.hid hb5
      clear hown5 hown6 hg5 hl5 hb5 HO HB
      go_wp2_with (fail)
      go_roundw
      case rel => exact ⟨k + 1, by omega, by rw [hPmul.out]; go_num, HO5, HB5⟩
      case measure => simp [intOf]; omega
    · obtain rfl : k = countB s.length size := by omega
      have hks2 : ¬ countB s.length size * size < s.length := fun h => hlt ((HCL.out _).2 h)
      have HOX := HO.out
      rw [List.take_of_length_le (by omega)] at HOX
      rw [← hNl] at HOX
      have HF := Lib.hid HOX
      clear HOX HO
      generalize countB s.length size = k at *
      generalize k * size = ks at *
      go_wp2_with (fail)
      go_ret
      exact ⟨_, rfl, HF.out, HB.out⟩

set_option maxRecDepth 100000 in
set_option maxHeartbeats 2000000 in
theorem Sums_any (A : Option Addr) (c : Nat) (l : List (List UInt8)) (w : World) (hl : Reads w 1 A l.length (strs l)) (hn : l.length ≤ 1048576) (hs : ∀ s ∈ l, s.length ≤ 1048576) :
    Calls Try.prog 20 #[.slice A l.length c] w fun e w' => ∃ v, e = .returned v ∧ w'.ownsRow w.heap.size 9 1 v l.length (strs (l.map sha)) ∧ Below w.heap.size w w' := by
  obtain ⟨i0, hi, hz0, hz1, hz2⟩ := info_parts info_str
  have HI := Lib.hid hi
  clear hi
  go_enter Try.func20, Try.ntmps20
  go_wp2_with (fail)
  refine (Table_any _).mono ?_
  rintro e w1 ⟨v, u, rfl, hv, hu, hb1⟩
  obtain ⟨Av, cv, rfl, _, _, hrv⟩ := IsSlice.of_own hv
  obtain ⟨Au, cu, rfl, _, _, hru⟩ := IsSlice.of_own hu
  have HV := Lib.hid hrv
  have HU := Lib.hid hru
  have HL := Lib.hid hl
  have HB1 := Lib.hid hb1
  clear hv hu hrv hru hl hb1
  go_wp2_with (fail)
  go_loopw [5, 6] (fun t5 t6 W => ∃ k : Nat, k ≤ l.length ∧ t6 = .int .i64 (k : Nat) ∧ Hid (W.ownsRow w1.heap.size 9 1 t5 k (strs ((l.map sha).take k))) ∧ Hid (Below w1.heap.size w1 W)) (fun _ t6 _ => l.length - (intOf t6).toNat)
  case atStart => exact ⟨0, by omega, rfl, Lib.hid (World.ownsRow_nil _ _ _ _), Lib.hid (Below.refl _ _)⟩
  case round =>
    obtain ⟨k, hk, rfl, HO, HB⟩ := hrel
    have i1 : (0 : Int) ≤ (k : Int) := by omega
    by_cases hlt : k < l.length
    · have hlW := HL.out.below (HB1.out.trans (HB.out.mono HB1.out.size))
      obtain ⟨ad, rfl, hcell⟩ := hlW.str_at hlt
      have htk : (l.map sha).take (k + 1) = (l.map sha).take k ++ [sha l[k]] := by
        rw [List.take_succ_eq_append_getElem (by simpa using hlt)]; simp
      have hsl := hs _ (List.getElem_mem hlt)
      have hsum := fun W (h : Below w1.heap.size w1 W) => refsum_any Av Au cv cu l[k] W (by omega) (HV.out.below h) (HU.out.below h)
      generalize l[k] = s at *
      have i2 : (k : Int) < (l.length : Int) := by omega
      have HT := Lib.hid htk
      have HSUM := Lib.hid hsum
      clear htk hsum hlW
      go_wp2_with (fail)
      refine (HSUM.out _ HB.out).mono ?_
      rintro e w2 ⟨rfl, hb2⟩
      have HB2 := Lib.hid (HB.out.trans (hb2.mono HB.out.size))
      have HO2 := Lib.hid (own_below HO.out hb2)
      clear hb2 HB HO hcell
      go_wp2_with (at_builtin; refine wpList_append_two rfl _ _ 54 rfl w1.heap.size 9 i0 _ 1 16 Try.underlying54 HI.out hz0 hz1 hz2 rfl (by decide) _ _ _ rfl (HO2.out.alloc _) ⟨w2.heap.size, 0, none⟩ 1 1 [.string ⟨(sha s).toArray⟩] rfl rfl (laid_one _ _ _) (one_oneCell rfl) ?c3 ?c4 ?c5 ?_)
      case c3 => unfold maxLen; omega
      case c4 => omega
      case c5 => have := HB2.out.size; simp; omega
      intro v1 w5 hown5 hg5 hl5
      have hb5 : Below w1.heap.size w1 w5 := (HB2.out.alloc HB2.out.size _).grown hg5 (by have := HB2.out.size; simp; omega) (fun k hk => (HO2.out.lt k hk).1)
      have hown6 : w5.ownsRow w1.heap.size 9 1 v1 (k + 1) (strs ((l.map sha).take (k + 1))) := by
        rw [HT.out, strs_append]; exact hown5
      have HO5 := Lib.hid hown6
      have HB5 := Lib.hid hb5
      clear hown5 hown6 hg5 hl5 hb5 HO2 HB2
      go_wp2_with (fail)
      go_roundw
      case rel => exact ⟨k + 1, by omega, by go_num, HO5, HB5⟩
      case measure => simp [intOf]; omega
    · obtain rfl : k = l.length := by omega
      have HOX := HO.out
      rw [List.take_of_length_le (by simp)] at HOX
      have HF := Lib.hid (own_base HOX HB1.out.size)
      have HFB := Lib.hid (HB1.out.trans (HB.out.mono HB1.out.size))
      clear HOX HO
      go_wp2_with (fail)
      go_ret
      exact ⟨_, rfl, HF.out, HFB.out⟩

set_option maxRecDepth 100000 in
set_option maxHeartbeats 2000000 in
theorem Sign_ref (base : List UInt8) (size : Nat) (w : World) (hs : 1 ≤ size) (hs2 : size ≤ 65536) (hl : base.length ≤ 1048576) :
    Calls Try.prog 8 #[.string ⟨base.toArray⟩, .int .i64 (size : Nat)] w fun e w' => ∃ v, e = .returned (.tuple #[v, .int .i64 0]) ∧ w'.ownsRow w.heap.size 33 3 v (signP base size).length (rowsE blkV (signP base size)) ∧ Below w.heap.size w w' := by
  obtain ⟨i0, hi, hz0, hz1, hz2⟩ := info_parts info_Block
  have HI := Lib.hid hi
  have b1 : decide ((size : Int) < 1) = false := decide_eq_false (by omega)
  have b2 : decide ((65536 : Int) < size) = false := decide_eq_false (by omega)
  have hN := countB_le (n := base.length) hs
  have hNl := blocksP_length base size
  have hSl := signP_length base size
  have hbk : ∀ s ∈ blocksP base size, s.length ≤ 1048576 := by
    intro s hs
    simp only [blocksP, List.mem_map] at hs
    obtain ⟨i, -, rfl⟩ := hs
    unfold blockP; simp; omega
  have hsg : signP base size = (blocksP base size).map told := rfl
  rw [hsg] at hSl ⊢
  clear hi hsg
  have hbl := blocks_any base size w hs hs2 hl
  generalize blocksP base size = l at *
  have HBK := Lib.hid hbk
  have hl20 : l.length ≤ 1048576 := by omega
  clear hbk hNl hSl hN
  go_enter Try.func8, Try.ntmps8
  go_wp2_with (fail)
  refine hbl.mono ?_
  rintro e w1 ⟨v, rfl, hv, hb1⟩
  obtain ⟨Av, cv, rfl, hcv1, hcv2, hrv⟩ := IsSlice.of_own hv
  have HR := Lib.hid hrv
  have HB1 := Lib.hid hb1
  clear hv hrv hb1 hbl
  by_cases h0 : l.length = 0
  · have hl0 : l = [] := List.length_eq_zero_iff.1 h0
    subst hl0
    clear h0
    go_wp2_with (fail)
    go_ret2
    exact ⟨_, rfl, World.ownsRow_nil _ _ _ _, HB1.out⟩
  · have b0 : ((l.length : Int) == 0) = false := by rw [beq_eq_false_iff_ne]; omega
    have HSU := Lib.hid (fun (W : World) (h : Reads W 1 Av l.length (strs l)) => Sums_any Av cv l W h hl20 HBK.out)
    go_wp2_with (fail)
    refine (HSU.out w1 HR.out).mono ?_
    rintro e w2 ⟨u, rfl, hu, hb2⟩
    obtain ⟨Au, cu, rfl, hcu1, hcu2, hru⟩ := IsSlice.of_own hu
    have HR2 := Lib.hid (HR.out.below hb2)
    have HU := Lib.hid hru
    have HB2 := Lib.hid (HB1.out.trans (hb2.mono HB1.out.size))
    clear hu hru hb2 HB1 HR
    go_wp2_with (fail)
    go_loopw [7, 9] (fun t7 t9 W => ∃ k : Nat, k ≤ l.length ∧ t9 = .int .i64 (k : Nat) ∧ Hid (W.ownsRow w2.heap.size 33 3 t7 k (rowsE blkV ((l.map told).take k))) ∧ Hid (Below w2.heap.size w2 W)) (fun _ t9 _ => l.length - (intOf t9).toNat)
    case atStart => exact ⟨0, by omega, rfl, Lib.hid (World.ownsRow_nil _ _ _ _), Lib.hid (Below.refl _ _)⟩
    case round =>
      obtain ⟨k, hk, rfl, HO, HB⟩ := hrel
      have i1 : (0 : Int) ≤ (k : Int) := by omega
      by_cases hlt : k < l.length
      · have hlW := HR2.out.below HB.out
        have huW := HU.out.below HB.out
        have hlu : k < (l.map sha).length := by simpa using hlt
        obtain ⟨ad, rfl, hcell⟩ := hlW.str_at hlt
        have huW' : Reads wr 1 Au (l.map sha).length (strs (l.map sha)) := by simpa using huW
        obtain ⟨ad2, rfl, hcell2⟩ := huW'.str_at hlu
        have hcell3 : wr.cell? (ad2.add k) = some (.string ⟨(sha l[k]).toArray⟩) := by rw [hcell2]; simp
        have htk : (l.map told).take (k + 1) = (l.map told).take k ++ [told l[k]] := by
          rw [List.take_succ_eq_append_getElem (by simpa using hlt)]; simp
        have hsl := HBK.out _ (List.getElem_mem hlt)
        have hwk := fun W => Weak_ref l[k] W (by omega)
        clear hcell2 huW' huW hlW hlu
        generalize l[k] = s at *
        have i2 : (k : Int) < (l.length : Int) := by omega
        have HT := Lib.hid htk
        have HC1 := Lib.hid hcell
        have HC2 := Lib.hid hcell3
        clear htk hcell hcell3
        go_wp2_with (fail)
        refine wp_region_move_quiet_rest (v0 := u7) 30 15 (by kernel_rfl) (by kernel_rfl) rfl rfl (fun _ _ _ h => h) (Or.inl ⟨by rfl, ?_⟩) ?_
        · intro w0
          go_simp
        simp only [List.take, List.drop, Act.put, List.setIfInBounds_toArray, List.set_cons_succ, List.set_cons_zero]
        repeat first
          | (go_big_quiet_want; refine quiet_load_cell 9 _ rfl _ rfl _ _ HC1.out Try.underlying9 rfl ?_; simp only [Act.put, List.setIfInBounds_toArray, List.set_cons_succ, List.set_cons_zero]; go_big_quiet_on)
          | (go_big_quiet_want; refine quiet_load_cell 9 _ rfl _ rfl _ _ HC2.out Try.underlying9 rfl ?_; simp only [Act.put, List.setIfInBounds_toArray, List.set_cons_succ, List.set_cons_zero]; go_big_quiet_on)
          | go_big_quiet_step ((intro hW; go_at_call 21; exact Ret.quiet hW (hwk _)))
        refine wpQuiet_nil ?_
        intro W2 hW2
        have HB4 := Lib.hid (HB.out.trans (hW2.mono HB.out.size))
        have HO4 := Lib.hid (own_below HO.out hW2)
        clear hW2 HB HO
        show wpAny _ _ _ _ (2 + 1) _ _ _
        refine wpAny_ready (rs := [16]) (by kernel_rfl) (by simp) ?_
        refine AllReady.cons rfl (fun K hK => ?_) AllReady.nil
        go_simp
        refine hK _ _ ?_
        clear hK K
        refine wpAny_ready (rs := [17]) (by kernel_rfl) (by simp) ?_
        refine AllReady.cons rfl (fun K hK => ?_) AllReady.nil
        simp only [List.getElem_toArray, List.getElem_cons_succ, List.getElem_cons_zero]
        rw [if_pos (by rfl)]
        refine wp_append_lies _ _ _ 22 rfl w2.heap.size 33 i0 _ 3 32 Try.underlying22 HI.out hz0 hz1 hz2 rfl (by decide) _ _ _ rfl (HO4.out.alloc _) ⟨W2.heap.size, 0, none⟩ 1 1 (blkV (told s)) rfl rfl (laid_rowE _ _ _) (blkV_oneCell _) (by decide) ?c3 ?c4 ?c5 _ rfl ?_
        case c3 => unfold maxLen; omega
        case c4 => omega
        case c5 => have := HB4.out.size; simp; omega
        intro g5 cap5 w5 hown5 hg5 hl5 hlt5
        have hb5 : Below w2.heap.size w2 w5 := (HB4.out.alloc HB4.out.size _).grown hg5 (by have := HB4.out.size; simp; omega) (fun k hk => (HO4.out.lt k hk).1)
        have hown6 : w5.ownsRow w2.heap.size 33 3 (.slice (some ⟨g5, 0, none⟩) (k + 1) cap5) (k + 1) (rowsE blkV ((l.map told).take (k + 1))) := by
          rw [HT.out, rowsE_append, rowsE_one]; exact hown5
        have HO5 := Lib.hid hown6
        have HB5 := Lib.hid hb5
        clear hown5 hown6 hg5 hl5 hb5 HO4 HB4
        refine hK _ _ ?_
        clear hK K
        refine wpAny_ready (rs := [18]) (by kernel_rfl) (by simp) ?_
        refine AllReady.cons rfl (fun K hK => ?_) AllReady.nil
        go_simp
        refine hK _ _ ?_
        clear hK K
        refine wpAny_done (by kernel_rfl) ?_ _
        go_wp2_with (fail)
        go_roundw
        case rel => exact ⟨k + 1, by omega, by go_num, HO5, HB5⟩
        case measure => simp [intOf]; omega
      · obtain rfl : k = l.length := by omega
        have HOX := HO.out
        rw [List.take_of_length_le (by simp)] at HOX
        have HF := Lib.hid (own_base HOX HB2.out.size)
        have HFB := Lib.hid (HB2.out.trans (HB.out.mono HB2.out.size))
        clear HOX HO
        go_wp2_with (fail)
        go_ret2
        exact ⟨_, rfl, by simpa using HF.out, HFB.out⟩

set_option maxHeartbeats 1000000 in
theorem Sign_ref_bad (base : List UInt8) (size : Int) (w : World) (h : size < 1 ∨ 65536 < size) :
    Calls Try.prog 8 #[.string ⟨base.toArray⟩, .int .i64 size] w (Ret w (.tuple #[.slice none 0 0, .int .i64 2])) := by
  by_cases h1 : size < 1
  · have b1 : decide (size < 1) = true := decide_eq_true (by omega)
    clear h
    go_enter Try.func8, Try.ntmps8
    go_wp2_with (fail)
    go_ret2
    exact ⟨rfl, Below.refl _ _⟩
  · have b1 : decide (size < 1) = false := decide_eq_false (by omega)
    have b2 : decide (65536 < size) = true := decide_eq_true (by omega)
    clear h
    go_enter Try.func8, Try.ntmps8
    go_wp2_with (fail)
    go_ret2
    exact ⟨rfl, Below.refl _ _⟩
end Go.Proofs.Ytgohhhfnffhgmaa
