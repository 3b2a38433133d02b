/- The document's sender: a call more; an ack. -/
import Derived.Test.YtknoedlelmflhaaRMux1
import Derived.Test.YtknoedlelmflhaaQuietTail
import Derived.Test.YtknoedlelmflhaaTwo
import Derived.Deep.AppendLies
import Derived.Deep.Cut
namespace Go.Proofs.Ytknoedlelmflhaa
open Go.RowKit Plain

theorem infoCall : (Try.prog.info? 87).map (fun i => (i.zero, i.size, i.bytes)) = some (some (.agg #[.string ⟨#[]⟩, .int .i64 0, .int .i64 0, .bool false, .bool false]), 5, 40) := by kernel_rfl
theorem infoCallS : (Try.prog.info? 87).map (·.size) = some 5 := by kernel_rfl

section
variable {S : Nat → Prop} {base bx win size : Nat} {cs : List Snd} {v : Value} {w : World}
theorem ROut.put (h : ROut S base bx win size cs v w) {w2 w' : World} {v' : Value} {c : Snd} (hok : OkS (cs ++ [c])) (hbase : base ≤ w.heap.size)
    (ho2 : Only (fun g => v.ownBlock = some g) w w2) (hv : w2.ownsRow base 87 5 v' ((offs cs).length + 1) (rowsV (offs cs) ++ clV (c, false)))
    (hl : ∀ g, v'.ownBlock = some g → v.ownBlock = some g ∨ w.heap.size ≤ g) (hw : w' = w2.setCell ⟨bx, 2, none⟩ v') :
    Only S w w' ∧ ROut (Grow S w w') base bx win size (cs ++ [c]) v' w' := by
  have hbx := (h.lain bx h.inS.1).2
  have hv'o : v'.ownBlock ≠ some bx := fun e => by
    rcases hl bx e with e | e
    · exact h.apart e
    · omega
  have hO2 : Only S w w2 := ho2.mono (fun g hg => h.inS.2 g hg)
  have hO : Only S w w' := by rw [hw]; exact hO2.set (.inl h.inS.1) _
  have hh2 : w2.heap[bx]? = some (.cells #[.int .i64 (win : Nat), .int .i64 (size : Nat), v] 53 (0, 0)) := (ho2.block bx hbx h.apart).trans h.head
  have hs' : w'.heap.size = w2.heap.size := by rw [hw]; simp [World.setCell]
  refine ⟨hO, ?_, ?_, hv'o, ⟨.inl h.inS.1, fun g hg => ?_⟩, h.lain.grow hbase hO.size, hok⟩
  · rw [hw, heap_set hh2]; rfl
  · have e1 : offs (cs ++ [c]) = offs cs ++ [(c, false)] := by simp [offs]
    rw [e1, rowsV_append, List.length_append]
    have e2 : rowsV [(c, false)] = clV (c, false) := by simp [rowsV]
    rw [e2]
    exact own_only hv (S := fun x => x = bx) (by rw [hw]; exact (Only.refl (fun x => x = bx) _).set (.inl rfl) _) (fun k hk e => hv'o (e ▸ hk))
  · have hlt := (hv.lt g hg).2
    rcases hl g hg with g1 | g1
    · exact .inl (h.inS.2 g g1)
    · exact .inr ⟨by omega, by omega⟩
theorem ROut.wider (h : ROut S base bx win size cs v w) {T : Nat → Prop} (hST : ∀ b, S b → T b) (hL : Lain base T w) : ROut T base bx win size cs v w := ⟨h.head, h.own, h.apart, ⟨hST _ h.inS.1, fun g hg => hST _ (h.inS.2 g hg)⟩, hL, h.ok⟩
theorem ROutAt.grow (h : ROutAt S base bx win size cs w) {w0 : World} (hb : Below w0.heap.size w0 w) (hbase : base ≤ w0.heap.size) (hL : Lain base S w0) : ROutAt (Grow S w0 w) base bx win size cs w := by
  obtain ⟨v, h⟩ := h
  exact ⟨v, h.wider (fun b hb => .inl hb) (hL.grow hbase hb.size)⟩

set_option maxRecDepth 100000 in
set_option maxHeartbeats 2000000 in
theorem RPut_any (t : List UInt8) (w : World) (h : ROutAt S base bx win size cs w) (hbase : base ≤ w.heap.size) (ht : t.length ≤ 9223372036854775807) :
    Calls Try.prog 16 #[.pointer (some ⟨bx, 0, none⟩), .string ⟨t.toArray⟩] w fun e w' => e = .returned (.int .i64 (putP cs t).2) ∧ Only S w w' ∧ ROutAt (Grow S w w') base bx win size (putP cs t).1 w' := by
  obtain ⟨v, h⟩ := h
  have hcl := h.ok.1
  obtain ⟨A, c, rfl, hc, hm⟩ := h.slice
  obtain ⟨c0, c1, c2, g2⟩ := h.facts
  by_cases hbad : 64 ≤ cs.length ∨ 65536 < t.length
  · have hp : putP cs t = (cs, -1) := by unfold putP; rw [if_pos hbad]
    rw [hp]
    have H := Lib.hid h
    by_cases h64 : 64 ≤ cs.length
    · have b1 : decide ((64 : Int) ≤ (cs.length : Nat)) = true := decide_eq_true (by omega)
      clear hp hbad h
      go_enter Try.func16, Try.ntmps16
      go_wp2_with (fail)
      go_ret
      exact ⟨rfl, Only.refl _ _, ROutAt.grow ⟨_, H.out⟩ (Below.refl _ _) hbase H.out.lain⟩
    · have b1 : decide ((64 : Int) ≤ (cs.length : Nat)) = false := decide_eq_false (by omega)
      have b2 : decide ((65536 : Int) < (t.length : Nat)) = true := decide_eq_true (by omega)
      clear hp hbad h
      go_enter Try.func16, Try.ntmps16
      go_wp2_with (fail)
      go_ret
      exact ⟨rfl, Only.refl _ _, ROutAt.grow ⟨_, H.out⟩ (Below.refl _ _) hbase H.out.lain⟩
  · have hp : putP cs t = (cs ++ [⟨t, false, 0, 0⟩], (cs.length : Int)) := by unfold putP; rw [if_neg hbad]
    have hok : OkS (cs ++ [⟨t, false, 0, 0⟩]) := by
      have := h.ok.put t
      rwa [hp] at this
    rw [hp]
    have b1 : decide ((64 : Int) ≤ (cs.length : Nat)) = false := decide_eq_false (by omega)
    have b2 : decide ((65536 : Int) < (t.length : Nat)) = false := decide_eq_false (by omega)
    obtain ⟨i0, hi, hz0, hz1, hz2⟩ := info_parts infoCall
    have hbx := (h.lain bx h.inS.1).2
    have hown := h.own
    have hap := h.apart
    have hhead := h.head
    have H := Lib.hid h
    have HO := Lib.hid hok
    have HA := Lib.hid hap
    have HH := Lib.hid hhead
    have HOWN := Lib.hid hown
    have HI := Lib.hid (And.intro hi (And.intro hz0 (And.intro hz1 hz2)))
    have hcl2 : cs.length < 64 := by omega
    have hol : (offs cs).length = cs.length := offs_length cs
    have HOL := Lib.hid hol
    clear h hok hap hhead hi hz0 hz1 hz2 hp hbad hown hol
    go_enter Try.func16, Try.ntmps16
    go_wp2_with (at_builtin; refine wpList_append_two rfl _ _ 51 rfl base 87 i0 _ 5 40 Try.underlying51 HI.out.1 HI.out.2.1 HI.out.2.2.1 HI.out.2.2.2 rfl (by decide) _ _ _ rfl (by have := HOWN.out.alloc (.cells #[.string ⟨t.toArray⟩, .int .i64 0, .int .i64 0, .bool false, .bool false] 87); rw [HOL.out] at this; exact this) ⟨w.heap.size, 0, none⟩ 1 1 (clV (⟨t, false, 0, 0⟩, false)) rfl rfl (World.news_of_block (heap_alloc_new w _)) (clV_oneCell _) ?c3 ?c4 ?c5 ?_)
    case c3 => unfold maxLen; omega
    case c4 => omega
    case c5 => simp; omega
    intro v' w2 hv' hg hl
    have hL' : ∀ g, v'.ownBlock = some g → (Value.slice A cs.length c).ownBlock = some g ∨ w.heap.size ≤ g := fun g e => by
      rcases hl g e with h1 | h1
      · exact .inl h1
      · right; simp at h1; omega
    have hb2 : Only (fun g => (Value.slice A cs.length c).ownBlock = some g) w w2 := ((Only.refl _ w).alloc _).more (Only.of_gb hg (fun k hk => .inl hk))
    have hh2 := (hb2.block bx hbx HA.out).trans HH.out
    obtain ⟨A', c', rfl, -, -, -⟩ := IsSlice.of_own hv'
    have hput := H.out.put (w' := w2.setCell ⟨bx, 2, none⟩ (.slice A' (cs.length + 1) c')) HO.out hbase hb2 (by rw [HOL.out]; exact hv') hL' rfl
    have d2 := cell_of_row w2 bx 2 _ _ _ hh2
    have f2 := frozen_of_row w2 bx 2 _ _ hh2
    simp at d2
    have HPUT := Lib.hid hput
    clear hput hh2 hb2 hL' hl hg hv'
    go_wp2_with (fail)
    go_ret
    exact ⟨rfl, HPUT.out.1, _, HPUT.out.2⟩

theorem ROut.set {A : Option Addr} {c g k : Nat} (h : ROut S base bx win size cs (.slice (some ⟨g, 0, none⟩) cs.length c) w) (hk : k < cs.length) {c' : Snd} (hc : okC c') {W : World} (ho : Only (fun _ => False) w W) :
    Only S w (W.setCells g (k * 5) (clV (c', false))) ∧ ROut S base bx win size (cs.set k c') (.slice (some ⟨g, 0, none⟩) cs.length c) (W.setCells g (k * 5) (clV (c', false))) := by
  have hW := h.only ho dis_none
  have hown := hW.own
  rw [← offs_length cs] at hown
  obtain ⟨h1, h2⟩ := row_set hown (j := k) (by rw [offs_length]; exact hk) (c', false)
  have hSg := h.inS.2 g rfl
  have hO : Only S W (W.setCells g (k * 5) (clV (c', false))) := Only.of_gb h2 (fun j hj => by injection hj with hj; subst hj; exact hSg)
  have e : (offs cs).set k (c', false) = offs (cs.set k c') := by simp [offs, List.map_set]
  rw [e] at h1
  refine ⟨(ho.mono (fun _ h => h.elim)).trans hO, (h2.block bx (hW.lain bx hW.inS.1).2 (fun e => by injection e with e; exact h.apart (by rw [e]; rfl))).trans hW.head, ?_, h.apart, h.inS, hW.lain.mono hO.size, h.ok.set k hc⟩
  rw [offs_length, List.length_set]
  rw [offs_length] at h1
  exact h1

set_option maxRecDepth 100000 in
set_option maxHeartbeats 2000000 in
theorem RAck_any (n m : Int) (w : World) (h : ROutAt S base bx win size cs w) :
    Calls Try.prog 18 #[.pointer (some ⟨bx, 0, none⟩), .int .i64 n, .int .i64 m] w fun e w' => e = .returned (.int .i64 (ackP cs n m).2) ∧ Only S w w' ∧ ROutAt S base bx win size (ackP cs n m).1 w' := by
  obtain ⟨v, h⟩ := h
  have hcl := h.ok.1
  obtain ⟨A, c, rfl, hc, hm⟩ := h.slice
  obtain ⟨c0, c1, c2, g2⟩ := h.facts
  by_cases hn : n < 0 ∨ (cs.length : Int) ≤ n
  · have hw : ackP cs n m = (cs, 160) := by unfold ackP; rw [if_pos hn]
    rw [hw]
    have H := Lib.hid h
    by_cases hn0 : n < 0
    · have b1 : decide (n < 0) = true := decide_eq_true hn0
      clear h hn hw
      go_enter Try.func18, Try.ntmps18
      go_wp2_with (fail)
      go_ret
      exact ⟨rfl, Only.refl _ _, _, H.out⟩
    · have b1 : decide (n < 0) = false := decide_eq_false hn0
      have b2 : decide ((cs.length : Int) ≤ n) = true := decide_eq_true (by omega)
      clear h hn hw
      go_enter Try.func18, Try.ntmps18
      go_wp2_with (fail)
      go_ret
      exact ⟨rfl, Only.refl _ _, _, H.out⟩
  · obtain ⟨k, rfl⟩ := Int.eq_ofNat_of_zero_le (show 0 ≤ n by omega)
    have hk : k < cs.length := by omega
    have b1 : decide ((k : Int) < 0) = false := decide_eq_false (by omega)
    have b2 : decide ((cs.length : Int) ≤ (k : Nat)) = false := decide_eq_false (by omega)
    obtain ⟨g, rfl, hSg, hgx, hgl, d0, d1, d2, d3, d4⟩ := h.at_ hk
    have hokc := h.ok.at_ hk
    have hset := fun (c' : Snd) (hc' : okC c') (W : World) (ho : Only (fun _ => False) w W) => h.set (A := none) hk hc' ho
    have hown := h.own
    rw [← offs_length cs] at hown
    have hth : ∀ W, Only (fun _ => False) w W → W.there g (k * 5) 5 := fun W ho => row_there (own_only hown ho (fun _ _ h => h)) (by rw [offs_length]; exact hk)
    have H := Lib.hid h
    have HSET := Lib.hid hset
    have HTH := Lib.hid hth
    have hw : ackP cs (k : Int) m = if m < cs[k].a ∨ (cs[k].s : Int) < m then (cs, 160) else (cs.set k { cs[k] with a := m.toNat }, 0) := by
      unfold ackP; rw [if_neg hn]; simp only [Int.toNat_natCast]; rw [getD_get hk]
    rw [hw]
    clear hw
    generalize cs[k] = d at *
    obtain ⟨t, b, s, a⟩ := d
    simp only at d0 d1 d2 d3 d4 ⊢
    have HOKC := Lib.hid hokc
    clear h hset hth hown hn hokc
    by_cases hbad : m < a ∨ (s : Int) < m
    · rw [if_pos hbad]
      by_cases hb1 : m < a
      · have b3 : decide (m < (a : Int)) = true := decide_eq_true hb1
        clear hbad
        go_enter Try.func18, Try.ntmps18
        go_wp2_with (fail)
        go_ret
        exact ⟨rfl, Only.refl _ _, _, H.out⟩
      · have b3 : decide (m < (a : Int)) = false := decide_eq_false hb1
        have b4 : decide ((s : Int) < m) = true := decide_eq_true (by omega)
        clear hbad
        go_enter Try.func18, Try.ntmps18
        go_wp2_with (fail)
        go_ret
        exact ⟨rfl, Only.refl _ _, _, H.out⟩
    · rw [if_neg hbad]
      obtain ⟨m, rfl⟩ := Int.eq_ofNat_of_zero_le (show 0 ≤ m by omega)
      have b3 : decide ((m : Int) < (a : Int)) = false := decide_eq_false (by omega)
      have b4 : decide ((s : Int) < (m : Int)) = false := decide_eq_false (by omega)
      have hoc : okC ⟨t, b, s, m⟩ := by obtain ⟨o1, o2, o3⟩ := HOKC.out; exact ⟨by simp only at *; omega, o2, o3⟩
      have HOC := Lib.hid hoc
      simp only [Int.toNat_natCast]
      have b5 : decide (m < a) = false := decide_eq_false (by omega)
      have b6 : decide (s < m) = false := decide_eq_false (by omega)
      have b7 : decide (cs.length ≤ k) = false := decide_eq_false (by omega)
      clear hbad hoc
      go_enter Try.func18, Try.ntmps18
      obtain ⟨w1, hw1⟩ : ∃ w1, w.alloc (.cells #[.string ⟨t.toArray⟩, .int .i64 (s : Nat), .int .i64 (m : Nat), .bool b, .bool false] 87) = w1 := ⟨_, rfl⟩
      have hc1 : w1.cell? ⟨bx, 2, none⟩ = some (.slice (some ⟨g, 0, none⟩) cs.length c) := by rw [← hw1, World.cell?_alloc_lt _ _ _ (World.block_lt_of_cell? _ _ c2)]; exact c2
      have hr1 : w1.heap[w.heap.size]? = some (.cells #[.string ⟨t.toArray⟩, .int .i64 (s : Nat), .int .i64 (m : Nat), .bool b, .bool false] 87 (0, 0)) := by rw [← hw1]; exact heap_alloc_new _ _
      have ho1 : Only (fun _ => False) w w1 := by rw [← hw1]; exact (Only.refl _ _).alloc _
      have HW1 := Lib.hid hw1
      have HC1 := Lib.hid hc1
      have HR1 := Lib.hid hr1
      have HO1 := Lib.hid ho1
      clear hw1 hc1 hr1 ho1
      go_wp2_with (fail)
      rw [HW1.out]
      refine wp_region_quiet_tail 7 (by kernel_rfl) (by kernel_rfl) ?_
      simp only [List.take, List.drop]
      repeat first
        | (go_big_quiet_want; refine quiet_load_cell 51 _ rfl _ rfl _ _ HC1.out Try.underlying51 rfl ?_; simp only [Act.put, List.setIfInBounds_toArray, List.set_cons_succ, List.set_cons_zero]; go_big_quiet_on)
        | (go_big_quiet_want; refine quiet_load_row 87 _ rfl _ rfl _ _ _ _ HR1.out Try.underlying87 rfl infoCallS ?_; simp only [Act.put, List.setIfInBounds_toArray, List.set_cons_succ, List.set_cons_zero]; go_big_quiet_on)
        | go_big_quiet_step (fail)
      refine wpQuiet_nil ?_
      intro W hW
      go_wp2_with (refine wpList_store_mid rfl 87 _ _ rfl g (k * 5) #[.string ⟨t.toArray⟩, .int .i64 (s : Nat), .int .i64 (m : Nat), .bool b, .bool false] rfl rfl (HTH.out _ (HO1.out.trans (Only.of_below hW))) infoCallS (by simp [Value.oneCell']) ?_)
      have hfin := HSET.out ⟨t, b, s, m⟩ HOC.out W (HO1.out.trans (Only.of_below hW))
      go_ret
      exact ⟨rfl, hfin.1, _, hfin.2⟩
end
end Go.Proofs.Ytknoedlelmflhaa
