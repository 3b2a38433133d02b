/- A sender: a call more. -/
import Derived.Test.YtknoedlelmflhaaMux3
namespace Go.Proofs.Ytknoedlelmflhaa
open Go.RowKit Plain

section
variable {S : Nat → Prop} {base bo win size : Nat} {cs : List Snd} {w : World}

/-- The sender with a call more. -/
theorem OutIs.put {v v' : Value} {ps : List Nat} (h : OutIs S base bo win size cs v ps w) {w2 w' : World} {c : Snd} (hok : OkS (cs ++ [c])) (hbase : base ≤ w.heap.size)
    (hsz : w.heap.size + 2 ≤ w2.heap.size) (hb2 : Only (fun g => v.ownBlock = some g) w w2) (hnew : w2.heap[w.heap.size]? = some (.cells (sndRow c) 81 (0, 0)))
    (hv : w2.ownsRow base 77 1 v' (cs.length + 1) (ps.map ptrV ++ [ptrV w.heap.size])) (hl : ∀ g, v'.ownBlock = some g → v.ownBlock = some g ∨ w.heap.size + 2 ≤ g) (hw : w' = w2.setCell ⟨bo, 2, none⟩ v') :
    Only S w w' ∧ OutIs (Grow S w w') base bo win size (cs ++ [c]) v' (ps ++ [w.heap.size]) w' := by
  have hbo := (h.lain bo h.inS.1).2
  have hps : ∀ b ∈ ps, b < w.heap.size := fun b hb => (h.lain b (h.inS.2.1 b hb)).2
  have hv'o : v'.ownBlock ≠ some bo := fun e => by
    rcases hl bo e with e | e
    · exact h.apart.2.1 e
    · omega
  have ho2 : Only S w w2 := hb2.mono (fun g hg => h.inS.2.2 g hg)
  have hO : Only S w w' := by rw [hw]; exact ho2.set (.inl h.inS.1) _
  have hne : ∀ x, x ≠ bo → w'.heap[x]? = w2.heap[x]? := fun x hx => by rw [hw]; exact Below.heap_setCell w2 _ _ x hx
  have hh2 : w2.heap[bo]? = some (.cells #[.int .i64 (win : Nat), .int .i64 (size : Nat), v] 73 (0, 0)) := (hb2.block bo hbo h.apart.2.1).trans h.head
  have hs' : w'.heap.size = w2.heap.size := by rw [hw]; simp [World.setCell]
  refine ⟨hO, ?_, ?_, ?_, ?_, ?_, ?_, h.lain.grow hbase hO.size, hok⟩
  · rw [hw, heap_set hh2]; rfl
  · rw [List.length_append, List.map_append]
    exact own_only hv (S := fun x => x = bo) (by rw [hw]; exact (Only.refl (fun x => x = bo) _).set (.inl rfl) _) (fun k hk e => hv'o (e ▸ hk))
  · intro k hk hk'
    by_cases hlt : k < ps.length
    · have hltc : k < cs.length := by rw [← h.len]; exact hlt
      have hm := List.getElem_mem hlt
      rw [List.getElem_append_left hlt, List.getElem_append_left hltc, hne _ (fun e => h.apart.1 (e ▸ hm)), hb2.block _ (hps _ hm) (fun e => h.apart.2.2 _ e hm)]
      exact h.rows k hltc hlt
    · have hkl : k = ps.length := by simp at hk'; omega
      subst hkl
      have hle := h.len
      rw [List.getElem_append_right (Nat.le_refl _), List.getElem_append_right (by omega)]
      simp only [hle, Nat.sub_self, List.getElem_cons_zero]
      rw [hne _ (by omega)]
      exact hnew
  · rw [List.nodup_append]
    exact ⟨h.nodup, by simp, fun a ha b hb e => by simp at hb; have := hps a ha; omega⟩
  · refine ⟨fun e => ?_, hv'o, fun g hg e => ?_⟩
    · rcases List.mem_append.1 e with e | e
      · exact h.apart.1 e
      · simp at e; omega
    · rcases List.mem_append.1 e with e | e
      · rcases hl g hg with g1 | g1
        · exact h.apart.2.2 g g1 e
        · have := hps g e; omega
      · simp at e
        subst e
        rcases hl _ hg with g1 | g1
        · have := (h.own.lt _ g1).2; omega
        · omega
  · refine ⟨.inl h.inS.1, fun b hb => ?_, fun g hg => ?_⟩
    · rcases List.mem_append.1 hb with e | e
      · exact .inl (h.inS.2.1 b e)
      · simp at e; subst e; exact .inr ⟨Nat.le_refl _, by omega⟩
    · have hlt := (hv.lt g hg).2
      rcases hl g hg with g1 | g1
      · exact .inl (h.inS.2.2 g g1)
      · exact .inr ⟨by omega, by omega⟩

set_option maxHeartbeats 2000000 in
theorem Put_any (t : List UInt8) (w : World) (h : OutAt S base bo win size cs w) (hbase : base ≤ w.heap.size) (ht : t.length ≤ 9223372036854775807) :
    Calls Try.prog 9 #[.pointer (some ⟨bo, 0, none⟩), .string ⟨t.toArray⟩] w fun e w' => e = .returned (.int .i64 (putP cs t).2) ∧ Only S w w' ∧ OutAt (Grow S w w') base bo win size (putP cs t).1 w' := by
  by_cases hbad : 64 ≤ cs.length ∨ 65536 < t.length
  · have hp : putP cs t = (cs, -1) := by unfold putP; rw [if_pos hbad]
    rw [hp]
    refine (Put_bad t w h hbad ht).mono ?_
    rintro e w1 ⟨rfl, h1⟩
    refine ⟨rfl, Only.of_below h1, ?_⟩
    obtain ⟨v, ps, h2⟩ := h.below h1
    exact ⟨v, ps, h2.head, h2.own, h2.rows, h2.nodup, h2.apart, ⟨.inl h2.inS.1, fun b hb => .inl (h2.inS.2.1 b hb), fun g hg => .inl (h2.inS.2.2 g hg)⟩, (fun b hb => by
      rcases hb with hb | hb
      · exact h2.lain b hb
      · omega), h2.ok⟩
  · have hp : putP cs t = (cs ++ [⟨t, false, 0, 0⟩], (cs.length : Int)) := by unfold putP; rw [if_neg hbad]
    have hok : OkS (cs ++ [⟨t, false, 0, 0⟩]) := by
      obtain ⟨v, ps, h2⟩ := h
      have := h2.ok.put t
      rwa [hp] at this
    rw [hp]
    clear ht
    have ht : t.length ≤ 65536 := by omega
    have hcl : cs.length < 64 := by omega
    clear hbad hp
    obtain ⟨v, ps, h⟩ := h
    obtain ⟨i0, hi, hz0, hz1, hz2⟩ := info_parts info_ptr_snd
    obtain ⟨c0, c1, c2⟩ := h.facts
    have hbo := (h.lain bo h.inS.1).2
    have H := Lib.hid h
    have hown := h.own
    have hap := h.apart.2.1
    have hhead := h.head
    obtain ⟨A, c, hv, hc, hm, hR⟩ := h.slice
    subst hv
    clear h hR
    have HO := Lib.hid hok
    have HA := Lib.hid hap
    have HH := Lib.hid hhead
    clear hok hap hhead
    have HI := Lib.hid (And.intro hi (And.intro hz0 (And.intro hz1 hz2)))
    clear hi hz0 hz1 hz2
    go_enter Try.func9, Try.ntmps9
    go_wp2_with (at_builtin; refine wpList_append_two rfl _ _ 71 rfl base 77 i0 _ 1 8 Try.underlying71 HI.out.1 HI.out.2.1 HI.out.2.2.1 HI.out.2.2.2 rfl (by decide) _ _ _ rfl ((hown.alloc _).alloc _) ⟨w.heap.size + 1, 0, none⟩ 1 1 [ptrV w.heap.size] rfl rfl ?c2 (one_oneCell rfl) ?c3 ?c4 ?c5 ?_)
    case c2 =>
      have := laid_one (w.alloc (.cells (sndRow ⟨t, false, 0, 0⟩) 81)) (ptrV w.heap.size) 77
      rw [show (w.alloc (.cells (sndRow ⟨t, false, 0, 0⟩) 81)).heap.size = w.heap.size + 1 by simp] at this
      exact this
    case c3 => unfold maxLen; omega
    case c4 => omega
    case c5 => simp; omega
    intro v' w2 hv' hg hl
    have hsz2 := hg.size
    simp at hsz2
    have hL' : ∀ g, v'.ownBlock = some g → (Value.slice A cs.length c).ownBlock = some g ∨ w.heap.size + 2 ≤ g := fun g e => by
      rcases hl g e with h1 | h1
      · exact .inl h1
      · right; simpa using h1
    have hb2 : Only (fun g => (Value.slice A cs.length c).ownBlock = some g) w w2 :=
      (((Only.refl _ w).alloc _).alloc _).more (Only.of_gb hg (fun k hk => .inl hk))
    have hnew : w2.heap[w.heap.size]? = some (.cells (sndRow ⟨t, false, 0, 0⟩) 81 (0, 0)) := by
      rw [hg.block w.heap.size (by simp; omega) (fun e => by have := (hown.lt _ e.symm).2; omega), Below.heap_alloc _ _ _ (by simp)]
      exact heap_alloc_new w _
    have hh2 := (hb2.block bo hbo HA.out).trans HH.out
    have d2 := cell_of_row w2 bo 2 _ _ _ hh2
    simp at d2
    have f2 : w2.frozen? ⟨bo, 2, none⟩ = false := by unfold World.frozen?; rw [hh2]; simp
    have hfin := H.out.put HO.out hbase hsz2 hb2 hnew hv' hL' rfl
    have HF := Lib.hid hfin
    obtain ⟨A', c', hvv, hc', hm', -⟩ := IsSlice.of_own hv'
    subst hvv
    have hblt := World.block_lt_of_cell? _ _ d2
    clear hfin hnew hb2 hL' hl hg hv' hown hh2 H HH HI HO
    go_wp2_with (fail)
    go_ret
    exact ⟨rfl, HF.out.1, _, _, HF.out.2⟩
end
end Go.Proofs.Ytknoedlelmflhaa
