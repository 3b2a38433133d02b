/- A sender: a call more; so much has come. -/
import Derived.Test.YtknoedlelmflhaaMux2
namespace Go.Proofs.Ytknoedlelmflhaa
open Go.RowKit Plain

theorem info_ptr_snd : (Try.prog.info? 77).map (fun i => (i.zero, i.size, i.bytes)) = some (some (.pointer none), 1, 8) := by kernel_rfl

section
variable {S : Nat → Prop} {base bo win size : Nat} {cs : List Snd} {w : World}

set_option maxHeartbeats 1000000 in
theorem Put_nil (t : List UInt8) (w : World) : Calls Try.prog 9 #[.pointer none, .string ⟨t.toArray⟩] w (Ret w (.int .i64 (-1))) := by
  go_enter Try.func9, Try.ntmps9
  go_wp2_with (fail)
  go_ret
  exact ⟨rfl, Below.refl _ _⟩

/-- The sender, one of whose calls is another one now. -/
theorem OutIs.set {v : Value} {ps : List Nat} (h : OutIs S base bo win size cs v ps w) {w' : World} {k b : Nat} {c : Snd} (hk : k < cs.length) (hb : ps[k]? = some b) (hc : okC c)
    (hw : w'.heap[b]? = some (.cells (sndRow c) 81 (0, 0))) (ho : Only (fun x => x = b) w w') : OutIs S base bo win size (cs.set k c) v ps w' := by
  have hk' : k < ps.length := by rw [h.len]; exact hk
  have hbk : ps[k] = b := by rw [List.getElem?_eq_getElem hk'] at hb; injection hb
  have hmem : b ∈ ps := hbk ▸ List.getElem_mem hk'
  have hne : ∀ x, S x → x ≠ b → w'.heap[x]? = w.heap[x]? := fun x hx hxb => ho.block x (h.lain x hx).2 hxb
  refine ⟨(hne bo h.inS.1 (fun e => h.apart.1 (e ▸ hmem))).trans h.head, ?_, ?_, h.nodup, h.apart, h.inS, h.lain.mono ho.size, h.ok.set _ hc⟩
  · rw [List.length_set]
    exact own_only h.own ho (fun g hg e => h.apart.2.2 g hg (e ▸ hmem))
  · intro j hj hj'
    by_cases hjk : j = k
    · subst hjk
      rw [hbk, hw]
      simp
    · rw [hne _ (h.inS.2.1 _ (List.getElem_mem hj')) (fun e => hjk ?_)]
      · rw [List.getElem_set_ne (Ne.symm hjk)]
        exact h.rows j (by simpa using hj) hj'
      · exact (List.getElem_inj h.nodup).1 (e.trans hbk.symm)

set_option maxHeartbeats 1000000 in
theorem Ack_nil (n m : Int) (w : World) : Calls Try.prog 12 #[.pointer none, .int .i64 n, .int .i64 m] w (Ret w (.int .i64 160)) := by
  go_enter Try.func12, Try.ntmps12
  go_wp2_with (fail)
  refine (call_nil n w).mono ?_
  rintro e w1 ⟨rfl, h1⟩
  go_wp2_with (fail)
  go_ret
  exact ⟨rfl, h1⟩

set_option maxHeartbeats 2000000 in
theorem Ack_any (n m : Int) (w : World) (h : OutAt S base bo win size cs w) :
    Calls Try.prog 12 #[.pointer (some ⟨bo, 0, none⟩), .int .i64 n, .int .i64 m] w fun e w' => e = .returned (.int .i64 (ackP cs n m).2) ∧ Only S w w' ∧ OutAt S base bo win size (ackP cs n m).1 w' := by
  by_cases hn : n < 0 ∨ (cs.length : Int) ≤ n
  · have hw : ackP cs n m = (cs, 160) := by unfold ackP; rw [if_pos hn]
    rw [hw]
    have hC := call_none n w h hn
    have H := Lib.hid h
    clear h hn hw
    go_enter Try.func12, Try.ntmps12
    go_wp2_with (fail)
    refine hC.mono ?_
    rintro e w1 ⟨rfl, h1⟩
    go_wp2_with (fail)
    go_ret
    exact ⟨rfl, Only.of_below h1, H.out.below h1⟩
  · obtain ⟨v, ps, h⟩ := h
    obtain ⟨k, rfl⟩ := Int.eq_ofNat_of_zero_le (show 0 ≤ n by omega)
    have hk : k < cs.length := by omega
    have hk' : k < ps.length := by rw [h.len]; exact hk
    have hC := call_some k w h hk ps[k] (List.getElem?_eq_getElem hk')
    have hrow := h.rows k hk hk'
    have hps : ps[k]? = some ps[k] := List.getElem?_eq_getElem hk'
    have hlt := (Array.getElem?_eq_some_iff.1 hrow).1
    have hok := h.ok.at_ hk
    have hw : ackP cs (k : Int) m = if m < cs[k].a ∨ (cs[k].s : Int) < m then (cs, 160) else (cs.set k { cs[k] with a := m.toNat }, 0) := by
      unfold ackP; rw [if_neg hn]; simp only [Int.toNat_natCast]; rw [getD_get hk]
    have hS := h.inS.2.1 _ (List.getElem_mem hk')
    generalize ps[k] = b at *
    generalize cs[k] = c at *
    rw [hw]
    have H := Lib.hid h
    clear h hn hw
    have HK := Lib.hid hk
    have HP := Lib.hid hps
    have HS := Lib.hid hS
    clear hk hk' hps hS
    obtain ⟨t, g, s, a⟩ := c
    by_cases h1 : m < a
    · rw [if_pos (.inl h1)]
      go_enter Try.func12, Try.ntmps12
      go_wp2_with (fail)
      refine hC.mono ?_
      rintro e w1 ⟨rfl, hb1⟩
      obtain ⟨c0, c1, c2, c3, hf⟩ := snd_facts ((hb1.block b hlt).trans hrow)
      simp only at c0 c1 c2 c3
      go_wp2_with (fail)
      go_ret
      exact ⟨rfl, Only.of_below hb1, _, _, H.out.below hb1⟩
    · by_cases h2 : (s : Int) < m
      · rw [if_pos (.inr h2)]
        go_enter Try.func12, Try.ntmps12
        go_wp2_with (fail)
        refine hC.mono ?_
        rintro e w1 ⟨rfl, hb1⟩
        obtain ⟨c0, c1, c2, c3, hf⟩ := snd_facts ((hb1.block b hlt).trans hrow)
        simp only at c0 c1 c2 c3
        go_wp2_with (fail)
        go_ret
        exact ⟨rfl, Only.of_below hb1, _, _, H.out.below hb1⟩
      · obtain ⟨q, rfl⟩ := Int.eq_ofNat_of_zero_le (show 0 ≤ m by omega)
        rw [if_neg (by simp only at h1 h2 ⊢; omega)]
        obtain ⟨o1, o2, o3⟩ := hok
        have hok2 : okC ⟨t, g, s, q⟩ := ⟨by show q ≤ s; omega, o2, o3⟩
        have HO := Lib.hid hok2
        clear hok2 o1 o2 o3
        go_enter Try.func12, Try.ntmps12
        go_wp2_with (fail)
        refine hC.mono ?_
        rintro e w1 ⟨rfl, hb1⟩
        have hr1 := (hb1.block b hlt).trans hrow
        obtain ⟨c0, c1, c2, c3, hf⟩ := snd_facts hr1
        have f3 := hf 3 (by omega)
        simp only at c0 c1 c2 c3
        have HR := Lib.hid hr1
        clear hr1 hf
        go_wp2_with (fail)
        go_ret
        refine ⟨rfl, (Only.of_below hb1).set (.inl HS.out) _, _, _, (H.out.below hb1).set HK.out HP.out HO.out ?_ ((Only.refl (fun x => x = b) _).set (.inl rfl) _)⟩
        rw [heap_set HR.out]
        rfl

set_option maxHeartbeats 2000000 in
theorem Put_bad (t : List UInt8) (w : World) (h : OutAt S base bo win size cs w) (hb : 64 ≤ cs.length ∨ 65536 < t.length) (ht : t.length ≤ 9223372036854775807) :
    Calls Try.prog 9 #[.pointer (some ⟨bo, 0, none⟩), .string ⟨t.toArray⟩] w (Ret w (.int .i64 (-1))) := by
  obtain ⟨v, ps, h⟩ := h
  have hcl := h.ok.1
  obtain ⟨c0, c1, c2⟩ := h.facts
  obtain ⟨A, c, rfl, hc, hm, hR⟩ := h.slice
  clear h hR
  by_cases h1 : 64 ≤ cs.length
  · go_enter Try.func9, Try.ntmps9
    go_wp2_with (fail)
    go_ret
    exact ⟨rfl, Below.refl _ _⟩
  · have h2 : 65536 < t.length := by omega
    clear hb
    go_enter Try.func9, Try.ntmps9
    go_wp2_with (fail)
    go_ret
    exact ⟨rfl, Below.refl _ _⟩
end
end Go.Proofs.Ytknoedlelmflhaa
