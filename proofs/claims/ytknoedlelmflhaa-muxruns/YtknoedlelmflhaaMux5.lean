/- A sender: the next piece of a call that may. -/
import Derived.Test.YtknoedlelmflhaaMux4
import Derived.Test.YtknoedlelmflhaaLoads
import Derived.Test.YtknoedlelmflhaaWholeRows
import Derived.StillTailTactics
import Derived.RegionTactic
import Derived.BigRegion
namespace Go.Proofs.Ytknoedlelmflhaa
open Go.RowKit Plain

def natV (l : List Nat) : List Value := l.map fun i => .int .i64 (i : Nat)
theorem infoFrame : (Try.prog.info? 37).map (·.size) = some 4 := by kernel_rfl
theorem info_int : (Try.prog.info? 3).map (fun i => (i.zero, i.size, i.bytes)) = some (some (.int .i64 0), 1, 8) := by kernel_rfl

theorem results_cell_row2 {P : Program} {fn : Func} {p q : Tmp} {ty : TypeId} (h : fn.results = #[.cell p ty, .tmp q]) (tmps : Array Value) (w : World) (g : Nat) (t : TypeId) (cs : Array Value) (fr : Nat × Nat) (d : TypeDesc) (u : Value)
    (hp : tmps.getD p undef = .pointer (some ⟨g, 0, none⟩)) (hq : tmps.getD q undef = u) (hg : w.heap[g]? = some (.cells cs t fr))
    (hu : P.underlying ty = some d) (hd : (match d with | .struct _ | .array _ _ => true | _ => false) = true) (hi : (P.info? ty).map (·.size) = some cs.size) :
    (results fn tmps).run P w = .ok (.tuple #[.agg cs, u]) w := by
  have hp' : tmps[p]?.getD undef = .pointer (some ⟨g, 0, none⟩) := by simpa using hp
  have hq' : tmps[q]?.getD undef = u := by simpa using hq
  simp [results, h, hp', hq', asAddr, run_loadVar_row w g t ty cs fr d hg hu hd hi]

def sendV (win size : Nat) (cs : List Snd) (pick : Int) : Value :=
  if mays win cs cs.length = [] then .tuple #[frmV 0 0 [] false, .bool false] else
    let c := cs.getD (pickP win cs pick) snd0
    .tuple #[frmV (pickP win cs pick : Nat) (c.s : Nat) ((c.t.drop c.s).take (sizeC win size c)) (decide (c.s + sizeC win size c = c.t.length)), .bool true]
def sendS (win size : Nat) (cs : List Snd) (pick : Int) : List Snd :=
  if mays win cs cs.length = [] then cs else cs.set (pickP win cs pick) (sentC win size (cs.getD (pickP win cs pick) snd0))

section
variable {S : Nat → Prop} {base bo win size : Nat} {cs : List Snd} {w : World}

set_option maxRecDepth 20000 in
set_option maxHeartbeats 1000000 in
theorem Send_nil (n : Int) (w : World) : Calls Try.prog 11 #[.pointer none, .int .i64 n] w (Ret w (.tuple #[frmV 0 0 [] false, .bool false])) := by
  go_enter Try.func11, Try.ntmps11
  go_wp2_with (fail)
  refine bodyPost_ret (v := .tuple #[frmV 0 0 [] false, .bool false]) ?_ rfl ⟨rfl, (Below.refl _ _).alloc (Nat.le_refl _) _⟩
  exact results_cell_row2 Try.results11 _ _ w.heap.size 37 _ (0, 0) _ _ rfl rfl (heap_alloc_new w _) Try.underlying37 rfl infoFrame

set_option maxRecDepth 20000 in
set_option maxHeartbeats 4000000 in
theorem Send_any (pick : Int) (w : World) (h : OutAt S base bo win size cs w) (hwin : (win : Int) ≤ 9223372036854775807) (hsize : (size : Int) ≤ 9223372036854775807) (_hs1 : 1 ≤ size) (hpick : pick ≤ 9223372036854775807) :
    Calls Try.prog 11 #[.pointer (some ⟨bo, 0, none⟩), .int .i64 pick] w fun e w' => e = .returned (sendV win size cs pick) ∧ Only S w w' ∧ OutAt S base bo win size (sendS win size cs pick) w' := by
  obtain ⟨v, ps, h⟩ := h
  have hcl := h.ok.1
  obtain ⟨c0, c1, c2⟩ := h.facts
  have hbo := (h.lain bo h.inS.1).2
  obtain ⟨A, c, rfl, hc, hm, hR⟩ := h.slice
  obtain ⟨i0, hi, hz0, hz1, hz2⟩ := info_parts info_int
  have HI := Lib.hid (And.intro hi (And.intro hz0 (And.intro hz1 hz2)))
  clear hi hz0 hz1 hz2
  have H := Lib.hid h
  have HWIN := Lib.hid hwin
  have HSIZE := Lib.hid hsize
  clear h hwin hsize
  go_enter Try.func11, Try.ntmps11
  go_wp2_with (fail)
  go_loopw [6, 7, 8, 21] (fun t6 t7 t8 t21 W => ∃ k : Nat, k ≤ cs.length ∧ t21 = .int .i64 (k : Nat) ∧ W.ownsRow (w.heap.size + 1) 3 1 t6 (mays win cs k).length (natV (mays win cs k)) ∧ Hid (Below (w.heap.size + 1) (w.alloc (.cells #[.int .i64 0, .int .i64 0, .string ⟨#[]⟩, .bool false] 37)) W)) (fun _ _ _ t21 _ => cs.length - (intOf t21).toNat)
  case atStart => exact ⟨0, by omega, rfl, World.ownsRow_nil _ _ _ _, Lib.hid (Below.refl _ _)⟩
  case round =>
    obtain ⟨k, hk, rfl, hown, HB⟩ := hrel
    have hbw : Below w.heap.size w wr := ((Below.refl w.heap.size w).alloc (Nat.le_refl _) _).trans (HB.out.mono (by omega))
    have hsz : w.heap.size + 1 ≤ wr.heap.size := by simpa using HB.out.size
    have h2 := H.out.below hbw
    obtain ⟨d0, d1, d2⟩ := h2.facts
    have hle := mays_le win cs k
    by_cases hlt : k < cs.length
    · obtain ⟨ad, b, rfl, hcell, hps, hrow⟩ := h2.at_ (hR.below hbw) hlt
      have hok := h2.ok.at_ hlt
      have hsucc := mays_succ (win := win) hlt
      have hrlt := (Array.getElem?_eq_some_iff.1 hrow).1
      generalize mays win cs k = m at *
      generalize cs[k] = d at *
      have HS := Lib.hid hsucc
      have HR := Lib.hid hrow
      have HO := Lib.hid hok
      have D0 := Lib.hid d0
      have HOWN := Lib.hid hown
      clear hsucc hrow hok h2 c0 c1 c2 d0 d1 d2 hown
      have HB2 := Lib.hid hbw
      clear hbw
      have HWT : Hid (∀ W, Below wr.heap.size wr W → Calls Try.prog 29 #[.pointer (some ⟨b, 0, none⟩)] W (Ret W (.bool (waitsB d)))) := Lib.hid (fun W hW => waits_any b d W ((hW.block b hrlt).trans HR.out) HO.out)
      have HWY : Hid (∀ W, Below wr.heap.size wr W → Calls Try.prog 30 #[.pointer (some ⟨b, 0, none⟩)] W (Ret W (.int .i64 (wayC d : Nat)))) := Lib.hid (fun W hW => way_any b d W ((hW.block b hrlt).trans HR.out) HO.out)
      by_cases hw : waitsB d = true
      · rw [hw] at HWT
        by_cases hy : wayC d < win
        · have hy' : decide ((wayC d : Int) < win) = true := by simpa using hy
          generalize hyy : wayC d = y at *
          have HYY := Lib.hid hyy
          clear hyy
          go_wp2_with (fail)
          refine wp_region_below (by kernel_rfl) (by kernel_rfl) ?_
          repeat first
            | (go_big_quiet_want; refine quiet_load_cell 3 _ rfl _ rfl _ _ D0.out Try.underlying3 rfl ?_; simp only [Act.put, List.setIfInBounds_toArray, List.set_cons_succ, List.set_cons_zero]; go_big_quiet_on)
            | go_big_quiet_step ((intro hW; first | (go_at_call 29; exact Ret.quiet hW (HWT.out _ hW)) | (go_at_call 30; exact Ret.quiet hW (HWY.out _ hW))))
          refine wpQuiet_nil ?_
          intro W3 hW3
          go_wp2_with (at_builtin; refine wpList_append_own _ rfl _ _ 25 rfl (w.heap.size + 1) 3 i0 _ 1 8 Try.underlying25 HI.out.1 HI.out.2.1 HI.out.2.2.1 HI.out.2.2.2 rfl (by decide) _ _ _ rfl ((own_below HOWN.out hW3).alloc _) ⟨W3.heap.size, 0, none⟩ 1 1 [.int .i64 (k : Nat)] rfl rfl (laid_one _ _ _) (one_oneCell rfl) ?c3 ?c4 ?c5 ?_)
          case c3 => unfold maxLen; omega
          case c4 => omega
          case c5 => have := HB.out.size; have := hW3.size; simp at *; omega
          intro v' w2 hown2 hg2 _
          go_wp2_with (fail)
          go_roundw
          case rel => exact ⟨k + 1, by omega, by go_num, by rw [HS.out, if_pos (by simp [mayB, hw, HYY.out, hy]), List.length_append, natV, List.map_append]; exact hown2, Lib.hid (below_appended (HB.out.trans (hW3.mono hsz)) (by have := HB.out.size; have := hW3.size; simp at *; omega) (own_below HOWN.out hW3) _ hg2)⟩
          case measure => simp [intOf]; omega
        · have hy' : decide ((wayC d : Int) < win) = false := by simpa using hy
          have hq : (waitsB d && decide (wayC d < win)) = false := by simp [hy]
          generalize hyy : wayC d = y at *
          have HYY := Lib.hid hyy
          clear hyy
          go_wp2_with (fail)
          refine wp_region_below (by kernel_rfl) (by kernel_rfl) ?_
          repeat first
            | (go_big_quiet_want; refine quiet_load_cell 3 _ rfl _ rfl _ _ D0.out Try.underlying3 rfl ?_; simp only [Act.put, List.setIfInBounds_toArray, List.set_cons_succ, List.set_cons_zero]; go_big_quiet_on)
            | go_big_quiet_step ((intro hW; first | (go_at_call 29; exact Ret.quiet hW (HWT.out _ hW)) | (go_at_call 30; exact Ret.quiet hW (HWY.out _ hW))))
          refine wpQuiet_nil ?_
          intro W3 hW3
          go_wp2_with (fail)
          go_roundw
          case rel => exact ⟨k + 1, by omega, by go_num, by rw [HS.out, if_neg (by simp [mayB, HYY.out, hy]), List.append_nil]; exact own_below HOWN.out hW3, Lib.hid (HB.out.trans (hW3.mono hsz))⟩
          case measure => simp [intOf]; omega
      · have hw : waitsB d = false := by simpa using hw
        rw [hw] at HWT
        go_wp2_with (fail)
        refine wp_region_below (by kernel_rfl) (by kernel_rfl) ?_
        repeat first
          | (go_big_quiet_want; refine quiet_load_cell 3 _ rfl _ rfl _ _ D0.out Try.underlying3 rfl ?_; simp only [Act.put, List.setIfInBounds_toArray, List.set_cons_succ, List.set_cons_zero]; go_big_quiet_on)
          | go_big_quiet_step ((intro hW; first | (go_at_call 29; exact Ret.quiet hW (HWT.out _ hW)) | (go_at_call 30; exact Ret.quiet hW (HWY.out _ hW))))
        refine wpQuiet_nil ?_
        intro W3 hW3
        go_wp2_with (fail)
        go_roundw
        case rel => exact ⟨k + 1, by omega, by go_num, by rw [HS.out, if_neg (by simp [mayB, hw]), List.append_nil]; exact own_below HOWN.out hW3, Lib.hid (HB.out.trans (hW3.mono hsz))⟩
        case measure => simp [intOf]; omega
    · obtain rfl : k = cs.length := by omega
      have HOWN := Lib.hid hown
      by_cases hm0 : mays win cs cs.length = []
      · have hsv : sendV win size cs pick = .tuple #[frmV 0 0 [] false, .bool false] := by unfold sendV; rw [if_pos hm0]
        have hss : sendS win size cs pick = cs := by unfold sendS; rw [if_pos hm0]
        have HSV := Lib.hid hsv
        have HSS := Lib.hid hss
        rw [hm0] at hown
        obtain ⟨A6, c6, rfl, -, -, -⟩ := IsSlice.of_own hown
        have hcellr : wr.heap[w.heap.size]? = some (.cells #[.int .i64 0, .int .i64 0, .string ⟨#[]⟩, .bool false] 37 (0, 0)) := by
          rw [HB.out.block _ (by omega)]; exact heap_alloc_new w _
        have HC := Lib.hid hcellr
        have H2 := Lib.hid h2
        have HBW := Lib.hid hbw
        have hs' : w.heap.size ≤ wr.heap.size := by omega
        clear hown hcellr h2 hbw hsv hss c0 c1 c2 d0 d1 d2 hR
        go_wp2_with (refine wpList_store_row rfl 37 (.tmp 4) (.tmp 45) rfl w.heap.size #[.int .i64 0, .int .i64 0, .string ⟨#[]⟩, .bool false] _ 37 rfl rfl HC.out rfl infoFrame (by simp [Value.oneCell']) ?_)
        intro w5 hg5 hs5 hb5
        go_wp2_with (fail)
        refine bodyPost_ret (v := .tuple #[frmV 0 0 [] false, .bool false]) ?_ rfl ⟨by rw [HSV.out], ?_, ?_⟩
        · exact results_cell_row2 Try.results11 _ _ w.heap.size 37 _ (0, 0) _ _ rfl rfl hb5 Try.underlying37 rfl infoFrame
        · exact Only.of_below (below_gb HBW.out hs' hg5 (Nat.le_refl _))
        · rw [HSS.out]
          exact ⟨_, _, H.out.below (below_gb HBW.out hs' hg5 (Nat.le_refl _))⟩
      · have hpl := pick_lt pick hm0
        have hsv : sendV win size cs pick = .tuple #[frmV (pickP win cs pick : Nat) ((cs.getD (pickP win cs pick) snd0).s : Nat) (((cs.getD (pickP win cs pick) snd0).t.drop (cs.getD (pickP win cs pick) snd0).s).take (sizeC win size (cs.getD (pickP win cs pick) snd0)))
            (decide ((cs.getD (pickP win cs pick) snd0).s + sizeC win size (cs.getD (pickP win cs pick) snd0) = (cs.getD (pickP win cs pick) snd0).t.length)), .bool true] := by unfold sendV; rw [if_neg hm0]
        have hss : sendS win size cs pick = cs.set (pickP win cs pick) (sentC win size (cs.getD (pickP win cs pick) snd0)) := by unfold sendS; rw [if_neg hm0]
        have hml : 0 < (mays win cs cs.length).length := List.length_pos_iff.2 hm0
        have hidx : pick.toNat % (mays win cs cs.length).length < (mays win cs cs.length).length := Nat.mod_lt _ hml
        have hpk : (mays win cs cs.length)[pick.toNat % (mays win cs cs.length).length]'hidx = pickP win cs pick := by unfold pickP; rw [getD_get hidx]
        obtain ⟨hpl1, hmay⟩ := hpl
        rw [getD_get hpl1] at hsv hss hmay
        obtain ⟨ad, b, rfl, hcell, hps, hrow⟩ := h2.at_ (hR.below hbw) hpl1
        have hok := h2.ok.at_ hpl1
        obtain ⟨A6, c6, rfl, hc6, hm6, hR6⟩ := IsSlice.of_own hown
        obtain ⟨ad6, u6, rfl, hu6, hcell6⟩ := hR6.at_ hidx
        have hu6' : u6 = .int .i64 (pickP win cs pick : Nat) := by
          have : (natV (mays win cs cs.length))[pick.toNat % (mays win cs cs.length).length]? = some (.int .i64 ((mays win cs cs.length)[pick.toNat % (mays win cs cs.length).length]'hidx : Nat)) := by simp [natV, hidx]
          rw [this, hpk] at hu6
          injection hu6 with hu6; exact hu6.symm
        subst hu6'
        clear hpk hu6 hR6
        generalize hmq : (mays win cs cs.length).length = mq at *
        generalize hxq : pick.toNat % mq = xq at *
        generalize hiq : pickP win cs pick = iq at *
        generalize hdq : cs[iq] = d at *
        have HSV := Lib.hid hsv
        have HSS := Lib.hid hss
        have HOK := Lib.hid hok
        have HROW := Lib.hid hrow
        have HPS := Lib.hid hps
        have HMAY := Lib.hid hmay
        have HBW := Lib.hid hbw
        have H2 := Lib.hid h2
        have hs' : w.heap.size ≤ wr.heap.size := by omega
        clear hsv hss hok hrow hps hmay hdq hiq hmq hown hbw h2 c0 c1 c2 hR HOWN hm0
        obtain ⟨t, g, sn, an⟩ := d
        obtain ⟨e0, e1, e2, e3, hf⟩ := snd_facts HROW.out
        simp only at e0 e1 e2 e3
        obtain ⟨o1, o2, o3⟩ := HOK.out
        simp only at o1 o2 o3
        have hwy : wayC ⟨t, g, sn, an⟩ < win := by have := HMAY.out; simp [mayB] at this; exact this.2
        have hrlt := (Array.getElem?_eq_some_iff.1 HROW.out).1
        have HWY : Hid (∀ W, Below wr.heap.size wr W → Calls Try.prog 30 #[.pointer (some ⟨b, 0, none⟩)] W (Ret W (.int .i64 (wayC ⟨t, g, sn, an⟩ : Nat)))) := Lib.hid (fun W hW => way_any b _ W ((hW.block b hrlt).trans HROW.out) HOK.out)
        have hnn : sizeC win size ⟨t, g, sn, an⟩ = min (min (t.length - sn) size) (win - wayC ⟨t, g, sn, an⟩) := rfl
        have hsc : sentC win size ⟨t, g, sn, an⟩ = ⟨t, true, sn + sizeC win size ⟨t, g, sn, an⟩, an⟩ := rfl
        have hoks := okC_sent (win := win) (size := size) HOK.out
        rw [hsc] at hoks
        generalize hyy : wayC ⟨t, g, sn, an⟩ = y at *
        generalize sizeC win size ⟨t, g, sn, an⟩ = n at *
        have hmn : (if (win : Int) - y < (if (size : Int) < t.length - sn then (size : Int) else t.length - sn) then (win : Int) - y else (if (size : Int) < t.length - sn then (size : Int) else t.length - sn)) = (n : Int) := by split <;> split <;> omega
        have HMN := Lib.hid hmn
        clear hmn
        have w1 : IntKind.i64.wrap ((t.length : Int) - sn) = (t.length : Int) - sn := IntWalk.i64_in _ (by omega)
        have w2 : IntKind.i64.wrap ((win : Int) - y) = (win : Int) - y := IntWalk.i64_in _ (by have := HWIN.out; omega)
        have hn1 : sn + n ≤ t.length := by omega
        have HSC := Lib.hid hsc
        have HOKS := Lib.hid hoks
        clear hsc hoks
        have HYY := Lib.hid hyy
        have HNN := Lib.hid hnn
        have HPB := Lib.hid hpick
        have HXQ := Lib.hid hxq
        have HHL := Lib.hid hlt
        clear hyy hnn hlt hk
        have D0 := Lib.hid d0
        have D1 := Lib.hid d1
        have E0 := Lib.hid e0
        have E2 := Lib.hid e2
        have E1 := Lib.hid e1
        by_cases hp0 : pick < 0
        case' pos =>
          obtain rfl : xq = 0 := by rw [show pick.toNat = 0 by omega, Nat.zero_mod] at hxq; exact hxq.symm
          have hcell6' : wr.cell? ad6 = some (.int .i64 (iq : Nat)) := by simpa [Addr.add] using hcell6
          clear hpick hxq
          go_wp2_with (fail)
          clear hcell6'
        case' neg =>
          obtain ⟨p, rfl⟩ := Int.eq_ofNat_of_zero_le (show 0 ≤ pick by omega)
          simp only [Int.toNat_natCast] at hxq
          go_wp2_with (fail)
          clear hpick hxq
        all_goals
          clear hcell6 hidx hml hc6 hm6 hcell d0 d1 d2 e0 e1 e2 e3
          refine wp_region_below (by kernel_rfl) (by kernel_rfl) ?_
          repeat first
            | (go_big_quiet_want; refine quiet_load_cell 3 _ rfl _ rfl _ _ D0.out Try.underlying3 rfl ?_; simp only [Act.put, List.setIfInBounds_toArray, List.set_cons_succ, List.set_cons_zero]; go_big_quiet_on)
            | (go_big_quiet_want; refine quiet_load_cell 3 _ rfl _ rfl _ _ D1.out Try.underlying3 rfl ?_; simp only [Act.put, List.setIfInBounds_toArray, List.set_cons_succ, List.set_cons_zero]; go_big_quiet_on)
            | (go_big_quiet_want; refine quiet_load_cell 3 _ rfl _ rfl _ _ E2.out Try.underlying3 rfl ?_; simp only [Act.put, List.setIfInBounds_toArray, List.set_cons_succ, List.set_cons_zero]; go_big_quiet_on)
            | (go_big_quiet_want; refine quiet_load_cell 9 _ rfl _ rfl _ _ E0.out Try.underlying9 rfl ?_; simp only [Act.put, List.setIfInBounds_toArray, List.set_cons_succ, List.set_cons_zero]; go_big_quiet_on)
            | go_big_quiet_step ((intro hW; first | (go_at_call 30; exact Ret.quiet hW (HWY.out _ hW))))
          rw [HMN.out]
          refine wpQuiet_nil ?_
          intro W3 hW3
          have e0 : W3.cell? ⟨b, 0, none⟩ = some (.string ⟨t.toArray⟩) := by rw [hW3.cell hrlt]; exact E0.out
          have e2 : W3.cell? ⟨b, 2, none⟩ = some (.int .i64 (sn : Nat)) := by rw [hW3.cell hrlt]; exact E2.out
          have e1 : W3.cell? ⟨b, 1, none⟩ = some (.bool g) := by rw [hW3.cell hrlt]; exact E1.out
          have f1 : W3.frozen? ⟨b, 1, none⟩ = false := by rw [hW3.frozen hrlt]; exact hf 1 (by omega)
          have f2 : W3.frozen? ⟨b, 2, none⟩ = false := by rw [hW3.frozen hrlt]; exact hf 2 (by omega)
          have hr3 := (hW3.block b hrlt).trans HROW.out
          have hb3 : b < W3.heap.size := Nat.lt_of_lt_of_le hrlt hW3.size
          have HR3 := Lib.hid hr3
          have HW3 := Lib.hid hW3
          have w3 : IntKind.i64.wrap ((sn : Int) + n) = (sn : Int) + n := IntWalk.i64_in _ (by omega)
          have s0 : (0 : Int) ≤ sn := by omega
          have s1 : (sn : Int) ≤ sn + n := by omega
          have s2 : (sn : Int) + n ≤ t.length := by omega
          clear hr3 hW3 w1 w2 hf
          go_wp2_with (fail)
          go_region
          go_wp2_with (fail)
          have hcs : (((sn : Int) + n) : Int) = ((sn + n : Nat) : Int) := by omega
          rw [hcs]
          have hro : (((W3.setCell ⟨b, 2, none⟩ (.int .i64 ((sn + n : Nat) : Int))).setCell ⟨b, 1, none⟩ (.bool true)).alloc (.cells #[.int .i64 (iq : Nat), .int .i64 (sn : Nat), .string ⟨((t.drop sn).take n).toArray⟩, .bool false] 37)).drew.heap[b]? = some (.cells (sndRow ⟨t, true, sn + n, an⟩) 81 (0, 0)) := by
            show (World.alloc _ _).heap[b]? = _
            rw [Below.heap_alloc _ _ _ (by simp [World.setCell]; exact hb3), heap_set (heap_set HR3.out _ _)]; rfl
          have hrn : (((W3.setCell ⟨b, 2, none⟩ (.int .i64 ((sn + n : Nat) : Int))).setCell ⟨b, 1, none⟩ (.bool true)).alloc (.cells #[.int .i64 (iq : Nat), .int .i64 (sn : Nat), .string ⟨((t.drop sn).take n).toArray⟩, .bool false] 37)).drew.heap[W3.heap.size]? = some (.cells #[.int .i64 (iq : Nat), .int .i64 (sn : Nat), .string ⟨((t.drop sn).take n).toArray⟩, .bool false] 37 (0, 0)) := by
            have := heap_alloc_new ((W3.setCell ⟨b, 2, none⟩ (.int .i64 ((sn + n : Nat) : Int))).setCell ⟨b, 1, none⟩ (.bool true)) (.cells #[.int .i64 (iq : Nat), .int .i64 (sn : Nat), .string ⟨((t.drop sn).take n).toArray⟩, .bool false] 37)
            have hz : ((W3.setCell ⟨b, 2, none⟩ (.int .i64 ((sn + n : Nat) : Int))).setCell ⟨b, 1, none⟩ (.bool true)).heap.size = W3.heap.size := by simp [World.setCell]
            rw [hz] at this
            exact this
          have ho5 : Only (fun x => x = b) W3 (((W3.setCell ⟨b, 2, none⟩ (.int .i64 ((sn + n : Nat) : Int))).setCell ⟨b, 1, none⟩ (.bool true)).alloc (.cells #[.int .i64 (iq : Nat), .int .i64 (sn : Nat), .string ⟨((t.drop sn).take n).toArray⟩, .bool false] 37)).drew :=
            ((((Only.refl (fun x => x = b) W3).set (.inl rfl) _).set (.inl rfl) _).alloc _).drew
          generalize hW5 : World.drew _ = W5 at *
          obtain ⟨q0, -, q2, -, -⟩ := snd_facts hro
          simp only at q0 q2
          have q3 : W5.cell? ⟨W3.heap.size, 3, none⟩ = some (.bool false) := cell_of_row _ _ _ _ _ _ hrn
          have f3 : W5.frozen? ⟨W3.heap.size, 3, none⟩ = false := by unfold World.frozen?; rw [hrn]; simp
          have HRO := Lib.hid hro
          have HRN := Lib.hid hrn
          have HO5 := Lib.hid ho5
          clear hro hrn ho5 hW5 e0 e1 e2 f1 f2 hcs w3 s0 s1 s2
          have hW3lt : W3.heap.size < W5.heap.size := (Array.getElem?_eq_some_iff.1 HRN.out).1
          have hb5 : b < W5.heap.size := (Array.getElem?_eq_some_iff.1 HRO.out).1
          have hq : ((sn : Int) + n == (t.length : Int)) = decide (sn + n = t.length) := by
            by_cases e : sn + n = t.length
            · rw [decide_eq_true e, beq_iff_eq]; omega
            · rw [decide_eq_false e, beq_eq_false_iff_ne]; omega
          have hld : (W5.setCell ⟨W3.heap.size, 3, none⟩ (.bool (decide (sn + n = t.length)))).heap[W3.heap.size]? = some (.cells #[.int .i64 (iq : Nat), .int .i64 (sn : Nat), .string ⟨((t.drop sn).take n).toArray⟩, .bool (decide (sn + n = t.length))] 37 (0, 0)) := by
            rw [heap_set HRN.out]; rfl
          have hbS : b < w.heap.size := by
            have hm' := List.mem_of_getElem? HPS.out
            exact (H.out.lain b (H.out.inS.2.1 b hm')).2
          have hbw3 : Below w.heap.size w W3 := HBW.out.trans (HW3.out.mono hs')
          have hws : w.heap.size < W3.heap.size := by have := HW3.out.size; omega
          have hres : W5.heap[w.heap.size]? = some (.cells #[.int .i64 0, .int .i64 0, .string ⟨#[]⟩, .bool false] 37 (0, 0)) := by
            rw [HO5.out.block _ hws (by omega), HW3.out.block _ (by omega), HB.out.block _ (by omega)]
            exact heap_alloc_new w _
          have hst : (W5.setCell ⟨W3.heap.size, 3, none⟩ (.bool (decide (sn + n = t.length)))).heap[w.heap.size]? = some (.cells #[.int .i64 0, .int .i64 0, .string ⟨#[]⟩, .bool false] 37 (0, 0)) := by
            rw [Below.heap_setCell _ _ _ _ (by show w.heap.size ≠ W3.heap.size; omega)]; exact hres
          have hrow6 : (W5.setCell ⟨W3.heap.size, 3, none⟩ (.bool (decide (sn + n = t.length)))).heap[b]? = some (.cells (sndRow ⟨t, true, sn + n, an⟩) 81 (0, 0)) := by
            rw [Below.heap_setCell _ _ _ _ (by show b ≠ W3.heap.size; omega)]; exact HRO.out
          have hon6 : Only (fun x => x = b) w (W5.setCell ⟨W3.heap.size, 3, none⟩ (.bool (decide (sn + n = t.length)))).drew :=
            (((Only.of_below hbw3).trans HO5.out).set (.inr (by show w.heap.size ≤ W3.heap.size; omega)) _).drew
          have hs6 : w.heap.size ≤ (W5.setCell ⟨W3.heap.size, 3, none⟩ (.bool (decide (sn + n = t.length)))).drew.heap.size := hon6.size
          have HQ := Lib.hid hq
          have HLD := Lib.hid hld
          have HST := Lib.hid hst
          have HR6 := Lib.hid hrow6
          have HO6 := Lib.hid hon6
          have HS6 := Lib.hid hs6
          have HBS := Lib.hid hbS
          clear hq hld hst hrow6 hon6 hres hbw3 hs6 hbS
          go_still_tail 12, (by kernel_rfl)
          rw [HQ.out]
          go_wp2_with (first
            | (refine wpList_load_row rfl 37 _ rfl W3.heap.size rfl 37 _ (0, 0) _ HLD.out Try.underlying37 rfl infoFrame ?_)
            | (refine wpList_store_row rfl 37 (.tmp 4) (.tmp 130) rfl w.heap.size #[.int .i64 (iq : Nat), .int .i64 (sn : Nat), .string ⟨((t.drop sn).take n).toArray⟩, .bool (decide (sn + n = t.length))] _ 37 rfl rfl HST.out rfl infoFrame (by simp [Value.oneCell']) ?_))
          intro w7 hg7 hs7 hr7
          have hfin : Only S w w7 ∧ OutAt S base bo win size (cs.set iq ⟨t, true, sn + n, an⟩) w7 := by
            have ho7 : Only (fun x => x = b) w w7 := HO6.out.more (Only.of_gb hg7 (fun k hk => by
              injection hk with hk
              subst hk
              exact .inr ⟨Nat.le_refl _, (Array.getElem?_eq_some_iff.1 HST.out).1⟩))
            have hbmem := H.out.inS.2.1 b (List.mem_of_getElem? HPS.out)
            refine ⟨ho7.mono (fun x hx => hx ▸ hbmem), _, _, H.out.set hpl1 HPS.out HOKS.out ?_ ho7⟩
            have hbl := HBS.out
            rw [hg7.block b (by have := (Array.getElem?_eq_some_iff.1 HR6.out).1; exact this) (fun e => by injection e with e; omega)]
            exact HR6.out
          have HFIN := Lib.hid hfin
          have HR7 := Lib.hid hr7
          clear hfin hr7 hs7 hg7
          go_wp2_with (fail)
          refine bodyPost_ret (v := .tuple #[frmV (iq : Nat) (sn : Nat) ((t.drop sn).take n) (decide (sn + n = t.length)), .bool true]) ?_ rfl ⟨by rw [HSV.out], HFIN.out.1, by rw [HSS.out, HSC.out]; exact HFIN.out.2⟩
          exact results_cell_row2 Try.results11 _ _ w.heap.size 37 _ (0, 0) _ _ rfl rfl HR7.out Try.underlying37 rfl infoFrame
end
end Go.Proofs.Ytknoedlelmflhaa
