/- The document's sender: what is sent next. -/
import Derived.Test.YtknoedlelmflhaaRMux2
import Derived.Test.YtknoedlelmflhaaMux5
import Derived.Deep.RegionHeld3
namespace Go.Proofs.Ytknoedlelmflhaa
open Go.RowKit Plain

theorem lt_of_heap' {w : World} {b : Nat} {o : Obj} (h : w.heap[b]? = some o) : b < w.heap.size := (Array.getElem?_eq_some_iff.1 h).1
theorem setCells_ne {g x : Nat} : ∀ (vs : List Value) (o : Nat) (w : World) (_ : x ≠ g), True → (w.setCells g o vs).heap[x]? = w.heap[x]?
  | [], _, _, _, _ => rfl
  | v :: vs, o, w, h, _ => by
    show ((w.setCell ⟨g, o, none⟩ v).setCells g (o + 1) vs).heap[x]? = _
    rw [setCells_ne vs (o + 1) (w.setCell ⟨g, o, none⟩ v) h trivial]
    simp only [World.setCell, Array.getElem?_modify]
    rw [if_neg (fun e => h e.symm)]
theorem heap_set_ne' {w : World} {b c : Nat} (h : c ≠ b) (k : Nat) (v : Value) : (w.setCell ⟨b, k, none⟩ v).heap[c]? = w.heap[c]? := by
  simp only [World.setCell, Array.getElem?_modify]
  rw [if_neg (fun e => h e.symm)]
section
variable {S : Nat → Prop} {base bx win size : Nat} {cs : List Snd} {w : World}

set_option maxRecDepth 100000 in
set_option maxHeartbeats 4000000 in
theorem RSend_any (pick : Int) (w : World) (h : ROutAt S base bx win size cs w) (hwin : (win : Int) ≤ 9223372036854775807) (hsize : (size : Int) ≤ 9223372036854775807) (hpick : pick ≤ 9223372036854775807) :
    Calls Try.prog 17 #[.pointer (some ⟨bx, 0, none⟩), .int .i64 pick] w fun e w' => e = .returned (sendV win size cs pick) ∧ Only S w w' ∧ ROutAt S base bx win size (sendS win size cs pick) w' := by
  obtain ⟨v, h⟩ := h
  have hcl := h.ok.1
  have hbx := (h.lain bx h.inS.1).2
  obtain ⟨A, c, rfl, hc, hm⟩ := h.slice
  obtain ⟨i0, hi, hz0, hz1, hz2⟩ := info_parts info_int
  have HI := Lib.hid (And.intro hi (And.intro hz0 (And.intro hz1 hz2)))
  clear hi hz0 hz1 hz2
  have H := Lib.hid h
  have HWIN := Lib.hid hwin
  have HSIZE := Lib.hid hsize
  have HPICK := Lib.hid hpick
  clear h hwin hsize hpick
  go_enter Try.func17, Try.ntmps17
  go_wp2_with (fail)
  go_loopw [6, 7] (fun t6 t7 W => ∃ k : Nat, k ≤ cs.length ∧ t7 = .int .i64 (k : Nat) ∧ W.ownsRow (w.heap.size + 1) 3 1 t6 (mays win cs k).length (natV (mays win cs k)) ∧ Hid (Below (w.heap.size + 1) (w.alloc (.cells #[.int .i64 0, .int .i64 0, .string ⟨#[]⟩, .bool false] 37)) W)) (fun _ t7 _ => cs.length - (intOf t7).toNat)
  case atStart => exact ⟨0, by omega, rfl, World.ownsRow_nil _ _ _ _, Lib.hid (Below.refl _ _)⟩
  case round =>
    obtain ⟨k, hk, rfl, hown, HB⟩ := hrel
    have hbw : Below w.heap.size w wr := ((Below.refl w.heap.size w).alloc (Nat.le_refl _) _).trans (HB.out.mono (by omega))
    have hsz : w.heap.size + 1 ≤ wr.heap.size := by simpa using HB.out.size
    have h2 := H.out.below hbw
    obtain ⟨d0, d1, d2, -⟩ := h2.facts
    have hle := mays_le win cs k
    by_cases hlt : k < cs.length
    · obtain ⟨g, rfl, -, -, hgl, e0, e1, e2, e3, e4⟩ := h2.at_ hlt
      have hown2 := h2.own
      rw [← offs_length cs] at hown2
      have hrange := row_range hown2 (j := k) (by rw [offs_length]; exact hlt)
      have he : (offs cs)[k]'(by rw [offs_length]; exact hlt) = (cs[k], false) := by simp [offs]
      rw [he] at hrange
      have hok := h2.ok.at_ hlt
      have hsucc := mays_succ (win := win) hlt
      generalize mays win cs k = m at *
      clear hown2 he
      generalize cs[k] = d at *
      obtain ⟨o1, o2, o3⟩ := hok
      have hway : ((wayC d : Nat) : Int) = (d.s : Int) - d.a := by unfold wayC; omega
      have hwr : IntKind.i64.wrap ((d.s : Int) - d.a) = (d.s : Int) - d.a := IntWalk.i64_in _ (by omega)
      have hWT := fun W => Rwaits_any d false W ⟨o1, o2, o3⟩
      have HS := Lib.hid hsucc
      have D0 := Lib.hid d0
      have D2 := Lib.hid d2
      have E1 := Lib.hid e1
      have E2 := Lib.hid e2
      have HR := Lib.hid (show wr.rangeAt g (k * 5) [.string ⟨d.t.toArray⟩, .int .i64 (d.s : Nat), .int .i64 (d.a : Nat), .bool d.b, .bool false] from hrange)
      have HOWN := Lib.hid hown
      have HB2 := Lib.hid hbw
      have HGL := Lib.hid hgl
      have hkl : decide ((k : Int) < (cs.length : Nat)) = true := decide_eq_true (by omega)
      clear hsucc h2 e0 e3 e4 hrange hown hbw d1 e1 e2 d0
      by_cases hw : waitsB d = true
      · rw [hw] at hWT
        by_cases hy : wayC d < win
        · have hy' : decide ((d.s : Int) - d.a < win) = true := decide_eq_true (by omega)
          have HMAY : Hid (mayB win d = true) := Lib.hid (by simp [mayB, hw, hy])
          clear hy hway hw
          go_wp2_with (fail)
          clear d2
          refine wp_region_below (by kernel_rfl) (by kernel_rfl) ?_
          repeat first
            | (go_big_quiet_want; refine quiet_load_mid 87 _ rfl _ _ rfl _ _ HR.out HGL.out Try.underlying87 rfl infoCallS ?_; simp only [Act.put, List.setIfInBounds_toArray, List.set_cons_succ, List.set_cons_zero]; go_big_quiet_on)
            | (go_big_quiet_want; refine quiet_load_cell 51 _ rfl _ rfl _ _ D2.out Try.underlying51 rfl ?_; simp only [Act.put, List.setIfInBounds_toArray, List.set_cons_succ, List.set_cons_zero]; go_big_quiet_on)
            | (go_big_quiet_want; refine quiet_load_cell 3 _ rfl _ rfl _ _ D0.out Try.underlying3 rfl ?_; simp only [Act.put, List.setIfInBounds_toArray, List.set_cons_succ, List.set_cons_zero]; go_big_quiet_on)
            | (go_big_quiet_want; refine quiet_load_cell 3 _ rfl _ rfl _ _ E1.out Try.underlying3 rfl ?_; simp only [Act.put, List.setIfInBounds_toArray, List.set_cons_succ, List.set_cons_zero]; go_big_quiet_on)
            | (go_big_quiet_want; refine quiet_load_cell 3 _ rfl _ rfl _ _ E2.out Try.underlying3 rfl ?_; simp only [Act.put, List.setIfInBounds_toArray, List.set_cons_succ, List.set_cons_zero]; go_big_quiet_on)
            | go_big_quiet_step ((intro hW; go_at_call 32; exact Ret.quiet hW (hWT _)))
          refine wpQuiet_nil ?_
          intro W3 hW3
          go_wp2_with (at_builtin; refine wpList_append_own _ rfl _ _ 25 rfl (w.heap.size + 1) 3 i0 _ 1 8 Try.underlying25 HI.out.1 HI.out.2.1 HI.out.2.2.1 HI.out.2.2.2 rfl (by decide) _ _ _ rfl ((own_below HOWN.out hW3).alloc _) ⟨W3.heap.size, 0, none⟩ 1 1 [.int .i64 (k : Nat)] rfl rfl (laid_one _ _ _) (one_oneCell rfl) ?c3 ?c4 ?c5 ?_)
          case c3 => unfold maxLen; omega
          case c4 => omega
          case c5 => have := HB.out.size; have := hW3.size; simp at *; omega
          intro v' w2 hown2 hg2 _
          go_wp2_with (fail)
          go_roundw
          case rel => exact ⟨k + 1, by omega, by go_num, by rw [HS.out, if_pos HMAY.out, List.length_append, natV, List.map_append]; exact hown2, Lib.hid (below_appended (HB.out.trans (hW3.mono hsz)) (by have := HB.out.size; have := hW3.size; simp at *; omega) (own_below HOWN.out hW3) _ hg2)⟩
          case measure => simp [intOf]; omega
        · have hy' : decide ((d.s : Int) - d.a < win) = false := decide_eq_false (by omega)
          have HMAY : Hid (mayB win d = false) := Lib.hid (by simp [mayB, hy])
          clear hy hway hw
          go_wp2_with (fail)
          clear d2
          refine wp_region_below (by kernel_rfl) (by kernel_rfl) ?_
          repeat first
            | (go_big_quiet_want; refine quiet_load_mid 87 _ rfl _ _ rfl _ _ HR.out HGL.out Try.underlying87 rfl infoCallS ?_; simp only [Act.put, List.setIfInBounds_toArray, List.set_cons_succ, List.set_cons_zero]; go_big_quiet_on)
            | (go_big_quiet_want; refine quiet_load_cell 51 _ rfl _ rfl _ _ D2.out Try.underlying51 rfl ?_; simp only [Act.put, List.setIfInBounds_toArray, List.set_cons_succ, List.set_cons_zero]; go_big_quiet_on)
            | (go_big_quiet_want; refine quiet_load_cell 3 _ rfl _ rfl _ _ D0.out Try.underlying3 rfl ?_; simp only [Act.put, List.setIfInBounds_toArray, List.set_cons_succ, List.set_cons_zero]; go_big_quiet_on)
            | (go_big_quiet_want; refine quiet_load_cell 3 _ rfl _ rfl _ _ E1.out Try.underlying3 rfl ?_; simp only [Act.put, List.setIfInBounds_toArray, List.set_cons_succ, List.set_cons_zero]; go_big_quiet_on)
            | (go_big_quiet_want; refine quiet_load_cell 3 _ rfl _ rfl _ _ E2.out Try.underlying3 rfl ?_; simp only [Act.put, List.setIfInBounds_toArray, List.set_cons_succ, List.set_cons_zero]; go_big_quiet_on)
            | go_big_quiet_step ((intro hW; go_at_call 32; exact Ret.quiet hW (hWT _)))
          refine wpQuiet_nil ?_
          intro W3 hW3
          go_wp2_with (fail)
          go_roundw
          case rel => exact ⟨k + 1, by omega, by go_num, by rw [HS.out, if_neg (by rw [HMAY.out]; decide), List.append_nil]; exact own_below HOWN.out hW3, Lib.hid (HB.out.trans (hW3.mono hsz))⟩
          case measure => simp [intOf]; omega
      · have hw : waitsB d = false := by simpa using hw
        rw [hw] at hWT
        have HMAY : Hid (mayB win d = false) := Lib.hid (by simp [mayB, hw])
        clear hway hw
        go_wp2_with (fail)
        clear d2
        refine wp_region_below (by kernel_rfl) (by kernel_rfl) ?_
        repeat first
          | (go_big_quiet_want; refine quiet_load_mid 87 _ rfl _ _ rfl _ _ HR.out HGL.out Try.underlying87 rfl infoCallS ?_; simp only [Act.put, List.setIfInBounds_toArray, List.set_cons_succ, List.set_cons_zero]; go_big_quiet_on)
          | (go_big_quiet_want; refine quiet_load_cell 51 _ rfl _ rfl _ _ D2.out Try.underlying51 rfl ?_; simp only [Act.put, List.setIfInBounds_toArray, List.set_cons_succ, List.set_cons_zero]; go_big_quiet_on)
          | (go_big_quiet_want; refine quiet_load_cell 3 _ rfl _ rfl _ _ D0.out Try.underlying3 rfl ?_; simp only [Act.put, List.setIfInBounds_toArray, List.set_cons_succ, List.set_cons_zero]; go_big_quiet_on)
          | (go_big_quiet_want; refine quiet_load_cell 3 _ rfl _ rfl _ _ E1.out Try.underlying3 rfl ?_; simp only [Act.put, List.setIfInBounds_toArray, List.set_cons_succ, List.set_cons_zero]; go_big_quiet_on)
          | (go_big_quiet_want; refine quiet_load_cell 3 _ rfl _ rfl _ _ E2.out Try.underlying3 rfl ?_; simp only [Act.put, List.setIfInBounds_toArray, List.set_cons_succ, List.set_cons_zero]; go_big_quiet_on)
          | go_big_quiet_step ((intro hW; go_at_call 32; exact Ret.quiet hW (hWT _)))
        refine wpQuiet_nil ?_
        intro W3 hW3
        go_wp2_with (fail)
        go_roundw
        case rel => exact ⟨k + 1, by omega, by go_num, by rw [HS.out, if_neg (by rw [HMAY.out]; decide), List.append_nil]; exact own_below HOWN.out hW3, Lib.hid (HB.out.trans (hW3.mono hsz))⟩
        case measure => simp [intOf]; omega
    · obtain rfl : k = cs.length := by omega
      have HOWN := Lib.hid hown
      by_cases hm0 : mays win cs cs.length = []
      · have hsv : sendV win size cs pick = .tuple #[frmV 0 0 [] false, .bool false] := by unfold sendV; rw [if_pos hm0]
        have hss : sendS win size cs pick = cs := by unfold sendS; rw [if_pos hm0]
        have HSV := Lib.hid hsv
        have HSS := Lib.hid hss
        rw [hm0] at hown
        obtain ⟨A6, c6, rfl, -, -, -⟩ := IsSlice.of_own hown
        have hcellr : wr.heap[w.heap.size]? = some (.cells #[.int .i64 0, .int .i64 0, .string ⟨#[]⟩, .bool false] 37 (0, 0)) := by
          rw [HB.out.block _ (by omega)]; exact heap_alloc_new w _
        have HC := Lib.hid hcellr
        have HBW := Lib.hid hbw
        have hs' : w.heap.size ≤ wr.heap.size := by omega
        clear hown hcellr h2 hbw hsv hss d0 d1
        go_wp2_with (refine wpList_store_row rfl 37 (.tmp 4) (.tmp 60) rfl w.heap.size #[.int .i64 0, .int .i64 0, .string ⟨#[]⟩, .bool false] _ 37 rfl rfl HC.out rfl infoFrame (by simp [Value.oneCell']) ?_)
        intro w5 hg5 hs5 hb5
        go_wp2_with (fail)
        refine bodyPost_ret (v := .tuple #[frmV 0 0 [] false, .bool false]) ?_ rfl ⟨by rw [HSV.out], ?_, ?_⟩
        · exact results_cell_row2 Try.results17 _ _ w.heap.size 37 _ (0, 0) _ _ rfl rfl hb5 Try.underlying37 rfl infoFrame
        · exact Only.of_below (below_gb HBW.out hs' hg5 (Nat.le_refl _))
        · rw [HSS.out]
          exact ⟨_, H.out.below (below_gb HBW.out hs' hg5 (Nat.le_refl _))⟩
      · have hpl := pick_lt pick hm0
        have hsv : sendV win size cs pick = .tuple #[frmV (pickP win cs pick : Nat) ((cs.getD (pickP win cs pick) snd0).s : Nat) (((cs.getD (pickP win cs pick) snd0).t.drop (cs.getD (pickP win cs pick) snd0).s).take (sizeC win size (cs.getD (pickP win cs pick) snd0)))
            (decide ((cs.getD (pickP win cs pick) snd0).s + sizeC win size (cs.getD (pickP win cs pick) snd0) = (cs.getD (pickP win cs pick) snd0).t.length)), .bool true] := by unfold sendV; rw [if_neg hm0]
        have hss : sendS win size cs pick = cs.set (pickP win cs pick) (sentC win size (cs.getD (pickP win cs pick) snd0)) := by unfold sendS; rw [if_neg hm0]
        have hml : 0 < (mays win cs cs.length).length := List.length_pos_iff.2 hm0
        have hidx : pick.toNat % (mays win cs cs.length).length < (mays win cs cs.length).length := Nat.mod_lt _ hml
        have hpk : (mays win cs cs.length)[pick.toNat % (mays win cs cs.length).length]'hidx = pickP win cs pick := by unfold pickP; rw [getD_get hidx]
        obtain ⟨hpl1, hmay⟩ := hpl
        rw [getD_get hpl1] at hsv hss hmay
        obtain ⟨g, rfl, hSg, hgx, hgl, e0, e1, e2, e3, e4⟩ := h2.at_ hpl1
        have hok := h2.ok.at_ hpl1
        have hset := fun (c' : Snd) (hc' : okC c') (W : World) (ho : Only (fun _ => False) wr W) => h2.set (A := none) hpl1 hc' ho
        have hown2 := h2.own
        rw [← offs_length cs] at hown2
        have hth : ∀ W, Only (fun _ => False) wr W → W.there g (pickP win cs pick * 5) 5 := fun W ho => row_there (own_only hown2 ho (fun _ _ h => h)) (by rw [offs_length]; exact hpl1)
        obtain ⟨A6, c6, rfl, hc6, hm6, hR6⟩ := IsSlice.of_own hown
        obtain ⟨ad6, u6, rfl, hu6, hcell6⟩ := hR6.at_ hidx
        have hu6' : u6 = .int .i64 (pickP win cs pick : Nat) := by
          have : (natV (mays win cs cs.length))[pick.toNat % (mays win cs cs.length).length]? = some (.int .i64 ((mays win cs cs.length)[pick.toNat % (mays win cs cs.length).length]'hidx : Nat)) := by simp [natV, hidx]
          rw [this, hpk] at hu6
          injection hu6 with hu6; exact hu6.symm
        subst hu6'
        clear hpk hu6 hR6
        have HSET := Lib.hid hset
        have HTH := Lib.hid hth
        clear hset hth hown2
        generalize hmq : (mays win cs cs.length).length = mq at *
        generalize hxq : pick.toNat % mq = xq at *
        generalize hiq : pickP win cs pick = iq at *
        generalize hdq : cs[iq] = d at *
        have HSV := Lib.hid hsv
        have HSS := Lib.hid hss
        have HOK := Lib.hid hok
        have HMAY := Lib.hid hmay
        have HBW := Lib.hid hbw
        have H2 := Lib.hid h2
        have hs' : w.heap.size ≤ wr.heap.size := by omega
        clear hsv hss hok hmay hdq hiq hmq hown hbw h2 HOWN hm0
        obtain ⟨t, b, sn, an⟩ := d
        simp only at e0 e1 e2 e3 e4
        obtain ⟨o1, o2, o3⟩ := HOK.out
        simp only at o1 o2 o3
        have hwy : wayC ⟨t, b, sn, an⟩ < win := by have := HMAY.out; simp [mayB] at this; exact this.2
        have hyy : ((wayC ⟨t, b, sn, an⟩ : Nat) : Int) = (sn : Int) - an := by unfold wayC; simp only; omega
        have hnn : sizeC win size ⟨t, b, sn, an⟩ = min (min (t.length - sn) size) (win - wayC ⟨t, b, sn, an⟩) := rfl
        have hsc : sentC win size ⟨t, b, sn, an⟩ = ⟨t, true, sn + sizeC win size ⟨t, b, sn, an⟩, an⟩ := rfl
        have hoks := okC_sent (win := win) (size := size) HOK.out
        rw [hsc] at hoks
        generalize wayC ⟨t, b, sn, an⟩ = y at *
        generalize sizeC win size ⟨t, b, sn, an⟩ = n at *
        have hmn : (if (win : Int) - ((sn : Int) - an) < (if (size : Int) < t.length - sn then (size : Int) else t.length - sn) then (win : Int) - ((sn : Int) - an) else (if (size : Int) < t.length - sn then (size : Int) else t.length - sn)) = (n : Int) := by split <;> split <;> omega
        have HMN := Lib.hid hmn
        have w1 : IntKind.i64.wrap ((t.length : Int) - sn) = (t.length : Int) - sn := IntWalk.i64_in _ (by omega)
        have w3 : IntKind.i64.wrap ((sn : Int) - an) = (sn : Int) - an := IntWalk.i64_in _ (by omega)
        have w2 : IntKind.i64.wrap ((win : Int) - ((sn : Int) - an)) = (win : Int) - ((sn : Int) - an) := IntWalk.i64_in _ (by have := HWIN.out; omega)
        have hn1 : sn + n ≤ t.length := by omega
        have HSC := Lib.hid hsc
        have HOKS := Lib.hid hoks
        have HNN := Lib.hid hnn
        have HYY := Lib.hid hyy
        have HXQ := Lib.hid hxq
        clear hsc hoks hnn hyy hlt hk hmn hwy
        have hpick := HPICK.out
        by_cases hp0 : pick < 0
        case' pos =>
          obtain rfl : xq = 0 := by rw [show pick.toNat = 0 by omega, Nat.zero_mod] at hxq; exact hxq.symm
          have hcell6' : wr.cell? ad6 = some (.int .i64 (iq : Nat)) := by simpa [Addr.add] using hcell6
          clear hpick hxq
          go_wp2_with (fail)
          clear hcell6'
        case' neg =>
          obtain ⟨p, rfl⟩ := Int.eq_ofNat_of_zero_le (show 0 ≤ pick by omega)
          simp only [Int.toNat_natCast] at hxq
          go_wp2_with (fail)
          clear hpick hxq
        all_goals
          clear hcell6 hidx hml hc6 hm6
          obtain ⟨W1, hW1⟩ : ∃ W1, wr.alloc (.cells #[.string ⟨t.toArray⟩, .int .i64 (sn : Nat), .int .i64 (an : Nat), .bool b, .bool false] 87) = W1 := ⟨_, rfl⟩
          have hr1 : W1.heap[wr.heap.size]? = some (.cells #[.string ⟨t.toArray⟩, .int .i64 (sn : Nat), .int .i64 (an : Nat), .bool b, .bool false] 87 (0, 0)) := by rw [← hW1]; exact heap_alloc_new _ _
          have hob1 : Below wr.heap.size wr W1 := by rw [← hW1]; exact (Below.refl _ _).alloc (Nat.le_refl _) _
          rw [hW1]
          have hbxr := lt_of_heap' H2.out.head
          have F0 := Lib.hid (cell_of_row W1 _ 0 _ _ _ hr1)
          have F1 := Lib.hid (cell_of_row W1 _ 1 _ _ _ hr1)
          have F2 := Lib.hid (cell_of_row W1 _ 2 _ _ _ hr1)
          have D0 := Lib.hid ((hob1.cell (p := ⟨bx, 0, none⟩) hbxr).trans d0)
          have D1 := Lib.hid ((hob1.cell (p := ⟨bx, 1, none⟩) hbxr).trans d1)
          have HR1 := Lib.hid hr1
          have HOB1 := Lib.hid hob1
          clear hr1 hob1 hW1 d0 d1 d2 e0 e1 e2 e3 e4
          refine wp_region_below (by kernel_rfl) (by kernel_rfl) ?_
          repeat first
            | (go_big_quiet_want; refine quiet_load_cell 9 _ rfl _ rfl _ _ F0.out Try.underlying9 rfl ?_; simp only [Act.put, List.setIfInBounds_toArray, List.set_cons_succ, List.set_cons_zero]; go_big_quiet_on)
            | (go_big_quiet_want; refine quiet_load_cell 3 _ rfl _ rfl _ _ F1.out Try.underlying3 rfl ?_; simp only [Act.put, List.setIfInBounds_toArray, List.set_cons_succ, List.set_cons_zero]; go_big_quiet_on)
            | (go_big_quiet_want; refine quiet_load_cell 3 _ rfl _ rfl _ _ F2.out Try.underlying3 rfl ?_; simp only [Act.put, List.setIfInBounds_toArray, List.set_cons_succ, List.set_cons_zero]; go_big_quiet_on)
            | (go_big_quiet_want; refine quiet_load_cell 3 _ rfl _ rfl _ _ D0.out Try.underlying3 rfl ?_; simp only [Act.put, List.setIfInBounds_toArray, List.set_cons_succ, List.set_cons_zero]; go_big_quiet_on)
            | (go_big_quiet_want; refine quiet_load_cell 3 _ rfl _ rfl _ _ D1.out Try.underlying3 rfl ?_; simp only [Act.put, List.setIfInBounds_toArray, List.set_cons_succ, List.set_cons_zero]; go_big_quiet_on)
            | go_big_quiet_step (fail)
          rw [HMN.out]
          refine wpQuiet_nil ?_
          intro W3 hW3
          have hcb : wr.heap.size < W1.heap.size := lt_of_heap' HR1.out
          have hr3 := (hW3.block _ hcb).trans HR1.out
          have hcb3 : wr.heap.size < W3.heap.size := lt_of_heap' hr3
          have f0 := cell_of_row W3 _ 0 _ _ _ hr3
          have f1 := cell_of_row W3 _ 1 _ _ _ hr3
          simp at f0 f1
          have HR3 := Lib.hid hr3
          have HW3 := Lib.hid hW3
          have w4 : IntKind.i64.wrap ((sn : Int) + n) = (sn : Int) + n := IntWalk.i64_in _ (by omega)
          have s0 : (0 : Int) ≤ sn := by omega
          have s1 : (sn : Int) ≤ sn + n := by omega
          have s2 : (sn : Int) + n ≤ t.length := by omega
          clear hr3 hW3 w1 w2 w3
          go_wp2_with (fail)
          have f0a : ∀ o, (World.drew (W3.alloc o)).cell? ⟨wr.heap.size, 0, none⟩ = some (.string ⟨t.toArray⟩) := fun o => by show (W3.alloc o).cell? _ = _; rw [World.cell?_alloc_lt _ _ _ hcb3]; exact f0
          have f1a : ∀ o, (World.drew (W3.alloc o)).cell? ⟨wr.heap.size, 1, none⟩ = some (.int .i64 (sn : Nat)) := fun o => by show (W3.alloc o).cell? _ = _; rw [World.cell?_alloc_lt _ _ _ hcb3]; exact f1
          go_region_held3 (fun W => W.cell? ⟨wr.heap.size, 0, none⟩ = some (.string ⟨t.toArray⟩) ∧ W.cell? ⟨wr.heap.size, 1, none⟩ = some (.int .i64 (sn : Nat))) (first | exact ⟨f0, f1⟩ | exact ⟨f0a _, f1a _⟩) (fail)
          have hq : ((sn : Int) + n == (t.length : Int)) = decide (sn + n = t.length) := by
            by_cases e : sn + n = t.length
            · rw [decide_eq_true e, beq_iff_eq]; omega
            · rw [decide_eq_false e, beq_eq_false_iff_ne]; omega
          have htn : ((sn : Int) + n).toNat - sn = n := by omega
          rw [hq, htn]
          clear f0a f1a f0 f1
          obtain ⟨W5, hW5⟩ : ∃ W5, World.drew (W3.alloc (.cells #[.int .i64 (iq : Nat), .int .i64 (sn : Nat), .string ⟨((t.drop sn).take n).toArray⟩, .bool (decide (sn + n = t.length))] 37)) = W5 := ⟨_, rfl⟩
          rw [hW5]
          have hrf : W5.heap[W3.heap.size]? = some (.cells #[.int .i64 (iq : Nat), .int .i64 (sn : Nat), .string ⟨((t.drop sn).take n).toArray⟩, .bool (decide (sn + n = t.length))] 37 (0, 0)) := by rw [← hW5]; exact heap_alloc_new W3 _
          have hr5 : W5.heap[wr.heap.size]? = some (.cells #[.string ⟨t.toArray⟩, .int .i64 (sn : Nat), .int .i64 (an : Nat), .bool b, .bool false] 87 (0, 0)) := by rw [← hW5]; exact heap_old' HR3.out
          have ho5 : Only (fun _ => False) wr W5 := by rw [← hW5]; exact (((Only.of_below HOB1.out).trans (Only.of_below HW3.out)).alloc _).drew
          have hcf : wr.heap.size ≠ W3.heap.size := by omega
          have hgf : g ≠ W3.heap.size := by omega
          have y1 := cell_of_row W5 _ 1 _ _ _ hr5
          have z1 := frozen_of_row W5 _ 1 _ _ hr5
          have y3 := cell_of_row W5 _ 3 _ _ _ hr5
          have z3 := frozen_of_row W5 _ 3 _ _ hr5
          simp at y1 y3
          obtain ⟨W6, hW6⟩ : ∃ W6, (W5.setCell ⟨wr.heap.size, 1, none⟩ (.int .i64 ((sn : Int) + n))).setCell ⟨wr.heap.size, 3, none⟩ (.bool true) = W6 := ⟨_, rfl⟩
          have hr6 : W6.heap[wr.heap.size]? = some (.cells #[.string ⟨t.toArray⟩, .int .i64 ((sn + n : Nat) : Int), .int .i64 (an : Nat), .bool true, .bool false] 87 (0, 0)) := by rw [← hW6, heap_set (heap_set hr5 _ _)]; rfl
          have hrf6 : W6.heap[W3.heap.size]? = some (.cells #[.int .i64 (iq : Nat), .int .i64 (sn : Nat), .string ⟨((t.drop sn).take n).toArray⟩, .bool (decide (sn + n = t.length))] 37 (0, 0)) := by rw [← hW6]; exact (heap_set_ne' (Ne.symm hcf) _ _).trans ((heap_set_ne' (Ne.symm hcf) _ _).trans hrf)
          have ho6 : Only (fun _ => False) wr W6 := by rw [← hW6]; exact (ho5.set (.inr (Nat.le_refl _)) _).set (.inr (Nat.le_refl _)) _
          have hd6 := (H2.out.only ho6 dis_none).facts.2.2.1
          have HW6 := Lib.hid hW6
          have HR6 := Lib.hid hr6
          have HRF6 := Lib.hid hrf6
          have HO6 := Lib.hid ho6
          have HD6 := Lib.hid hd6
          have HGF := Lib.hid hgf
          clear hW5 hrf hr5 ho5 hW6 hr6 hrf6 ho6 hd6 hq htn hgf hcf
          go_wp2_with (fail)
          rw [HW6.out]
          clear y1 z1 y3 z3
          refine wp_region_quiet_tail 7 (by kernel_rfl) (by kernel_rfl) ?_
          simp only [List.take, List.drop]
          repeat first
            | (go_big_quiet_want; refine quiet_load_cell 51 _ rfl _ rfl _ _ HD6.out Try.underlying51 rfl ?_; simp only [Act.put, List.setIfInBounds_toArray, List.set_cons_succ, List.set_cons_zero]; go_big_quiet_on)
            | (go_big_quiet_want; refine quiet_load_row 87 _ rfl _ rfl _ _ _ _ HR6.out Try.underlying87 rfl infoCallS ?_; simp only [Act.put, List.setIfInBounds_toArray, List.set_cons_succ, List.set_cons_zero]; go_big_quiet_on)
            | go_big_quiet_step (fail)
          refine wpQuiet_nil ?_
          intro W7 hW7
          have ho7 : Only (fun _ => False) wr W7 := HO6.out.trans (Only.of_below hW7)
          have hrf7 := (hW7.block _ (lt_of_heap' HRF6.out)).trans HRF6.out
          obtain ⟨hs1, hs2⟩ := HSET.out ⟨t, true, sn + n, an⟩ HOKS.out W7 ho7
          have hth7 := HTH.out W7 ho7
          have HTH7 := Lib.hid hth7
          have hrf8 : (W7.setCells g (iq * 5) (clV (⟨t, true, sn + n, an⟩, false))).heap[W3.heap.size]? = some (.cells #[.int .i64 (iq : Nat), .int .i64 (sn : Nat), .string ⟨((t.drop sn).take n).toArray⟩, .bool (decide (sn + n = t.length))] 37 (0, 0)) := (setCells_ne _ _ _ (Ne.symm HGF.out) trivial).trans hrf7
          have HS1 := Lib.hid hs1
          have HS2 := Lib.hid hs2
          have HRF8 := Lib.hid hrf8
          clear hs1 hs2 hrf8 hth7 hrf7 ho7 hW7
          have hres : (W7.setCells g (iq * 5) (clV (⟨t, true, sn + n, an⟩, false))).heap[w.heap.size]? = some (.cells #[.int .i64 0, .int .i64 0, .string ⟨#[]⟩, .bool false] 37 (0, 0)) := by
            rw [HS1.out.block _ (by omega) (fun h => by have := (H.out.lain _ h).2; omega), HB.out.block _ (by omega)]
            exact heap_alloc_new w _
          have HRES := Lib.hid hres
          clear hres
          refine wpList_store_mid rfl 87 (.tmp 130) (.tmp 129) rfl g (iq * 5) #[.string ⟨t.toArray⟩, .int .i64 ((sn + n : Nat) : Int), .int .i64 (an : Nat), .bool true, .bool false] rfl rfl HTH7.out infoCallS (by simp [Value.oneCell']) ?_
          obtain ⟨W8, hW8⟩ : ∃ W8, W7.setCells g (iq * 5) (clV (⟨t, true, sn + n, an⟩, false)) = W8 := ⟨_, rfl⟩
          rw [hW8] at HS1 HS2 HRF8 HRES
          rw [show W7.setCells g (iq * 5) (#[.string ⟨t.toArray⟩, .int .i64 ((sn + n : Nat) : Int), .int .i64 (an : Nat), .bool true, .bool false] : Array Value).toList = W8 from hW8]
          clear hW8 HTH7
          go_wp2_with (first
            | (refine wpList_load_row rfl 37 _ rfl W3.heap.size rfl 37 _ (0, 0) _ HRF8.out Try.underlying37 rfl infoFrame ?_)
            | (refine wpList_store_row rfl 37 (.tmp 4) (.tmp 131) rfl w.heap.size #[.int .i64 (iq : Nat), .int .i64 (sn : Nat), .string ⟨((t.drop sn).take n).toArray⟩, .bool (decide (sn + n = t.length))] _ 37 rfl rfl HRES.out rfl infoFrame (by simp [Value.oneCell']) ?_))
          intro w9 hg9 hs9 hr9
          have ho9 : Only (fun x => x = w.heap.size) W8 w9 := Only.of_gb hg9 (fun k hk => by injection hk with hk; exact hk.symm)
          have hfin : Only S w w9 ∧ ROutAt S base bx win size (cs.set iq ⟨t, true, sn + n, an⟩) w9 := by
            refine ⟨((Only.of_below HBW.out).trans HS1.out).more (ho9.mono (fun x hx => .inr ⟨by omega, ?_⟩)), _, HS2.out.only ho9 (fun b hb e => by have := (H.out.lain b hb).2; omega)⟩
            rw [hx]; exact lt_of_heap' HRES.out
          have HFIN := Lib.hid hfin
          have HR9 := Lib.hid hr9
          clear hfin hr9 hs9 hg9 ho9
          go_wp2_with (fail)
          refine bodyPost_ret (v := .tuple #[frmV (iq : Nat) (sn : Nat) ((t.drop sn).take n) (decide (sn + n = t.length)), .bool true]) ?_ rfl ⟨by rw [HSV.out], HFIN.out.1, by rw [HSS.out, HSC.out]; exact HFIN.out.2⟩
          exact results_cell_row2 Try.results17 _ _ w.heap.size 37 _ (0, 0) _ _ rfl rfl HR9.out Try.underlying37 rfl infoFrame
end
end Go.Proofs.Ytknoedlelmflhaa
