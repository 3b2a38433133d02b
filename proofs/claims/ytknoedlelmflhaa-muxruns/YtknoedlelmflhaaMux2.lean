/- A sender: a new one; a call of a number; what is on its way; what has come; how many wait. -/
import Derived.Test.YtknoedlelmflhaaMux1
namespace Go.Proofs.Ytknoedlelmflhaa
open Go.RowKit Plain

set_option maxHeartbeats 1000000 in
theorem NewOut_bad (a b : Int) (w : World) (h : a < 1 ∨ b < 1) : Calls Try.prog 7 #[.int .i64 a, .int .i64 b] w (Ret w (.tuple #[.pointer none, .int .i64 2])) := by
  by_cases ha : a < 1
  · go_enter Try.func7, Try.ntmps7
    go_wp2_with (fail)
    go_ret2
    exact ⟨rfl, Below.refl _ _⟩
  · have hb : b < 1 := by omega
    go_enter Try.func7, Try.ntmps7
    go_wp2_with (fail)
    go_ret2
    exact ⟨rfl, Below.refl _ _⟩

set_option maxHeartbeats 1000000 in
theorem NewOut_any (S : Nat → Prop) (base win size : Nat) (w : World) (h1 : (1 : Int) ≤ win) (h2 : (1 : Int) ≤ size) (_hL : Lain base S w) (hb : base ≤ w.heap.size) :
    Calls Try.prog 7 #[.int .i64 (win : Nat), .int .i64 (size : Nat)] w fun e w' => e = .returned (.tuple #[.pointer (some ⟨w.heap.size, 0, none⟩), .int .i64 0]) ∧ Below w.heap.size w w' ∧
      OutAt (fun b => w.heap.size ≤ b ∧ b < w'.heap.size) base w.heap.size win size [] w' := by
  go_enter Try.func7, Try.ntmps7
  go_wp2_with (fail)
  go_ret2
  refine ⟨rfl, (Below.refl _ _).alloc (Nat.le_refl _) _, .slice none 0 0, [], ?_⟩
  exact ⟨heap_alloc_new w _, World.ownsRow_nil _ _ _ _, fun k h _ => absurd h (by simp), List.nodup_nil, ⟨by simp, by simp [Value.ownBlock], by simp⟩, ⟨by simp, by simp, by simp [Value.ownBlock]⟩, fun b hb' => by simp at hb' ⊢; omega, OkS.nil⟩

section
variable {S : Nat → Prop} {base bo win size : Nat} {cs : List Snd}

set_option maxHeartbeats 1000000 in
theorem call_none (n : Int) (w : World) (h : OutAt S base bo win size cs w) (hn : n < 0 ∨ (cs.length : Int) ≤ n) :
    Calls Try.prog 31 #[.pointer (some ⟨bo, 0, none⟩), .int .i64 n] w (Ret w (.pointer none)) := by
  obtain ⟨v, ps, h⟩ := h
  have hcl := h.ok.1
  obtain ⟨c0, c1, c2⟩ := h.facts
  obtain ⟨A, c, rfl, hc, hm, hR⟩ := h.slice
  by_cases hn0 : n < 0
  · go_enter Try.func31, Try.ntmps31
    go_wp2_with (fail)
    go_ret
    exact ⟨rfl, Below.refl _ _⟩
  · have hn1 : (cs.length : Int) ≤ n := by omega
    clear hn
    go_enter Try.func31, Try.ntmps31
    go_wp2_with (fail)
    go_ret
    exact ⟨rfl, Below.refl _ _⟩

set_option maxHeartbeats 1000000 in
theorem call_some {v : Value} {ps : List Nat} (n : Nat) (w : World) (h : OutIs S base bo win size cs v ps w) (hn : n < cs.length) (b : Nat) (hb : ps[n]? = some b) :
    Calls Try.prog 31 #[.pointer (some ⟨bo, 0, none⟩), .int .i64 (n : Nat)] w (Ret w (.pointer (some ⟨b, 0, none⟩))) := by
  have hcl := h.ok.1
  obtain ⟨c0, c1, c2⟩ := h.facts
  obtain ⟨A, c, rfl, hc, hm, hR⟩ := h.slice
  obtain ⟨ad, b', rfl, hcell, hps, -⟩ := h.at_ hR hn
  rw [hb] at hps
  injection hps with hps
  subst hps
  clear hR h
  go_enter Try.func31, Try.ntmps31
  go_wp2_with (fail)
  go_ret
  exact ⟨rfl, Below.refl _ _⟩

set_option maxHeartbeats 1000000 in
theorem call_nil (n : Int) (w : World) : Calls Try.prog 31 #[.pointer none, .int .i64 n] w (Ret w (.pointer none)) := by
  go_enter Try.func31, Try.ntmps31
  go_wp2_with (fail)
  go_ret
  exact ⟨rfl, Below.refl _ _⟩

set_option maxHeartbeats 1000000 in
theorem Way_nil (n : Int) (w : World) : Calls Try.prog 13 #[.pointer none, .int .i64 n] w (Ret w (.int .i64 0)) := by
  go_enter Try.func13, Try.ntmps13
  go_wp2_with (fail)
  refine (call_nil n w).mono ?_
  rintro e w1 ⟨rfl, h1⟩
  go_wp2_with (fail)
  go_ret
  exact ⟨rfl, h1⟩

set_option maxHeartbeats 1000000 in
theorem Way_any (n : Int) (w : World) (h : OutAt S base bo win size cs w) :
    Calls Try.prog 13 #[.pointer (some ⟨bo, 0, none⟩), .int .i64 n] w (Ret w (.int .i64 (wayP cs n : Nat))) := by
  by_cases hn : n < 0 ∨ (cs.length : Int) ≤ n
  · have hw : wayP cs n = 0 := by unfold wayP; rw [if_pos hn]
    rw [hw]
    have hC := call_none n w h hn
    clear h hn hw
    go_enter Try.func13, Try.ntmps13
    go_wp2_with (fail)
    refine hC.mono ?_
    rintro e w1 ⟨rfl, h1⟩
    go_wp2_with (fail)
    go_ret
    exact ⟨rfl, h1⟩
  · obtain ⟨v, ps, h⟩ := h
    obtain ⟨k, rfl⟩ := Int.eq_ofNat_of_zero_le (show 0 ≤ n by omega)
    have hk : k < cs.length := by omega
    have hk' : k < ps.length := by rw [h.len]; exact hk
    have hw : wayP cs (k : Int) = wayC cs[k] := by unfold wayP; rw [if_neg hn]; simp only [Int.toNat_natCast]; rw [getD_get hk]
    rw [hw]
    have hC := call_some k w h hk ps[k] (List.getElem?_eq_getElem hk')
    have hrow := h.rows k hk hk'
    have hlt := (Array.getElem?_eq_some_iff.1 hrow).1
    have hok := h.ok.at_ hk
    generalize ps[k] = b at *
    generalize cs[k] = c at *
    clear h hn hw
    go_enter Try.func13, Try.ntmps13
    go_wp2_with (fail)
    refine hC.mono ?_
    rintro e w1 ⟨rfl, h1⟩
    go_wp2_with (fail)
    refine (way_any b c w1 ((h1.block b hlt).trans hrow) hok).mono ?_
    rintro e w2 ⟨rfl, h2⟩
    go_wp2_with (fail)
    go_ret
    exact ⟨rfl, h1.trans (h2.mono h1.size)⟩

set_option maxHeartbeats 1000000 in
theorem Left_nil (w : World) : Calls Try.prog 10 #[.pointer none] w (Ret w (.int .i64 0)) := by
  go_enter Try.func10, Try.ntmps10
  go_wp2_with (fail)
  go_ret
  exact ⟨rfl, Below.refl _ _⟩

set_option maxHeartbeats 2000000 in
theorem Left_any (w : World) (h : OutAt S base bo win size cs w) :
    Calls Try.prog 10 #[.pointer (some ⟨bo, 0, none⟩)] w (Ret w (.int .i64 (leftP cs : Nat))) := by
  obtain ⟨v, ps, h⟩ := h
  have hcl := h.ok.1
  obtain ⟨c0, c1, c2⟩ := h.facts
  obtain ⟨A, c, rfl, hc, hm, hR⟩ := h.slice
  have H := Lib.hid h
  clear h
  go_enter Try.func10, Try.ntmps10
  go_wp2_with (fail)
  go_loopw [3, 13] (fun t3 t13 W => ∃ k : Nat, k ≤ cs.length ∧ t13 = .int .i64 (k : Nat) ∧ t3 = .int .i64 (leftK cs k : Nat) ∧ Below w.heap.size w W) (fun _ t13 _ => cs.length - (intOf t13).toNat)
  case atStart => exact ⟨0, by omega, rfl, rfl, Below.refl _ _⟩
  case round =>
    obtain ⟨k, hk, rfl, rfl, hb⟩ := hrel
    by_cases hlt : k < cs.length
    · have h2 := H.out.below hb
      obtain ⟨ad, b, rfl, hcell, hps, hrow⟩ := h2.at_ (hR.below hb) hlt
      have hok := h2.ok.at_ hlt
      have hW := waits_any b cs[k] wr hrow hok
      have hsucc := leftK_succ hlt
      have hle := leftK_le cs k
      generalize leftK cs k = m at *
      generalize cs[k] = d at *
      have HS := Lib.hid hsucc
      clear hsucc hrow hok hR h2
      by_cases hw : waitsB d = true
      · rw [hw] at hW
        go_wp2_with (fail)
        refine hW.mono ?_
        rintro e w1 ⟨rfl, h1⟩
        go_wp2_with (fail)
        go_roundw
        case rel => exact ⟨k + 1, by omega, by go_num, by rw [HS.out, if_pos hw]; go_num, hb.trans (h1.mono hb.size)⟩
        case measure => simp [intOf]; omega
      · have hw' : waitsB d = false := by simpa using hw
        rw [hw'] at hW
        go_wp2_with (fail)
        refine hW.mono ?_
        rintro e w1 ⟨rfl, h1⟩
        go_wp2_with (fail)
        go_roundw
        case rel => exact ⟨k + 1, by omega, by go_num, by rw [HS.out, if_neg hw]; rfl, hb.trans (h1.mono hb.size)⟩
        case measure => simp [intOf]; omega
    · obtain rfl : k = cs.length := by omega
      go_wp2_with (fail)
      go_ret
      exact ⟨by rw [leftK_all]; rfl, hb⟩
end
end Go.Proofs.Ytknoedlelmflhaa
