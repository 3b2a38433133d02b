/- The document's receiver: a frame more. -/
import Derived.Test.YtknoedlelmflhaaRMux3
import Derived.Test.YtknoedlelmflhaaWholeRows
import Derived.Deep.RegionHeld3
import Derived.Deep.DeepCutAuto
import Derived.Deep.RegionLaw
namespace Go.Proofs.Ytknoedlelmflhaa
open Go.RowKit Plain

def zeroL : List (Snd × Bool) := List.replicate 64 (snd0, false)
theorem made_rows : (madeCells #[.string ⟨#[]⟩, .int .i64 0, .int .i64 0, .bool false, .bool false] 320).toList = rowsV zeroL := by kernel_rfl
theorem run_made (w : World) : (Instr.makeSlice 51 (.int .i64 64) (.int .i64 64)).run Try.prog w = .ok (.slice (some ⟨w.heap.size, 0, none⟩) 64 64) (w.alloc (.cells (madeCells #[.string ⟨#[]⟩, .int .i64 0, .int .i64 0, .bool false, .bool false] 320) 87)) := by
  obtain ⟨i0, hi, hz0, hz1, hz2⟩ := info_parts infoCall
  have := run_make (P := Try.prog) w 51 87 i0 _ Try.underlying51 hi hz0 .i64 .i64 64 64 (by decide) (by decide) (by rw [hz2]; decide) (by decide)
  rw [hz1] at this
  exact this

section
variable {S : Nat → Prop} {base bx n : Nat} {r : Rcv} {L : List (Snd × Bool)} {v u : Value} {w : World}
theorem setCells_ne9 {g x : Nat} : ∀ (vs : List Value) (o : Nat) (w : World) (_ : x ≠ g), (w.setCells g o vs).heap[x]? = w.heap[x]?
  | [], _, _, _ => rfl
  | v :: vs, o, w, h => by
    show ((w.setCell ⟨g, o, none⟩ v).setCells g (o + 1) vs).heap[x]? = _
    rw [setCells_ne9 vs (o + 1) (w.setCell ⟨g, o, none⟩ v) h]
    simp only [World.setCell, Array.getElem?_modify]
    rw [if_neg (fun e => h e.symm)]
theorem heap_set_ne9 {w : World} {b c : Nat} (h : c ≠ b) (k' : Nat) (v : Value) : (w.setCell ⟨b, k', none⟩ v).heap[c]? = w.heap[c]? := by
  simp only [World.setCell, Array.getElem?_modify]
  rw [if_neg (fun e => h e.symm)]
theorem info_intR : (Try.prog.info? 3).map (fun i => (i.zero, i.size, i.bytes)) = some (some (.int .i64 0), 1, 8) := by kernel_rfl
theorem lt_of_heap9 {w : World} {b : Nat} {o : Obj} (h : w.heap[b]? = some o) : b < w.heap.size := (Array.getElem?_eq_some_iff.1 h).1
theorem RIn.made (h : RIn S base bx r n L v u w) (h0 : L.length = 0) (hbase : base ≤ w.heap.size) {W : World} (hW : W = (w.setCell ⟨bx, 0, none⟩ (.slice (some ⟨w.heap.size, 0, none⟩) 64 64)).alloc (.cells (madeCells #[.string ⟨#[]⟩, .int .i64 0, .int .i64 0, .bool false, .bool false] 320) 87)) :
    Only S w W ∧ RIn (Grow S w W) base bx r n zeroL (.slice (some ⟨w.heap.size, 0, none⟩) 64 64) u W := by
  have hbx := (h.lain bx h.inS.1).2
  have hO : Only S w W := by rw [hW]; exact ((Only.refl S w).set (.inl h.inS.1) _).alloc _
  have hsz : W.heap.size = w.heap.size + 1 := by rw [hW]; simp [World.setCell]
  have hob : Only (fun x => x = bx) w W := by rw [hW]; exact ((Only.refl (fun x => x = bx) w).set (.inl rfl) _).alloc _
  have hnew : W.heap[w.heap.size]? = some (.cells (madeCells #[.string ⟨#[]⟩, .int .i64 0, .int .i64 0, .bool false, .bool false] 320) 87 (0, 0)) := by
    rw [hW]
    exact heap_new' _ _ _ (by simp [World.setCell])
  refine ⟨hO, ?_, ?_, own_only h.ended hob (fun k hk e => h.apart.2.1 (e ▸ hk)), ⟨.inr rfl, fun k hk => ?_, fun e => by cases e⟩, h.few, ⟨fun e => ?_, h.apart.2.1, fun k hk e => ?_⟩, ⟨.inl h.inS.1, fun g hg => ?_, fun g hg => .inl (h.inS.2.2 g hg)⟩, h.lain.grow hbase hO.size, h.ok⟩
  · rw [hW]; exact heap_old' (by rw [heap_set h.head]; rfl)
  · refine ⟨by rw [rowsV_length], .inr ⟨w.heap.size, 64, _, rfl, hbase, hnew, Nat.le_refl _, by unfold maxLen; omega, by rw [size_madeCells], ?_⟩⟩
    rw [made_rows]
    exact List.take_of_length_le (by rw [rowsV_length]; exact Nat.le_refl _)
  · have hx := h.kept.bare h0 k
    rw [hx]
    have e : zeroL[k] = (snd0, false) := List.getElem_replicate _
    rw [e]
    exact ⟨rfl, rfl⟩
  · simp [Value.ownBlock] at e; omega
  · simp [Value.ownBlock] at hk
    subst hk
    have := (h.ended.lt _ e).2; omega
  · simp [Value.ownBlock] at hg
    subst hg
    exact .inr ⟨Nat.le_refl _, by omega⟩

/-- The receiver with a frame more: the row is written. -/
theorem RIn.row {g c : Nat} (h : RIn S base bx r n L (.slice (some ⟨g, 0, none⟩) L.length c) u w) {k : Nat} (hk : k < L.length) (hl : L.length = 64) {x : Snd × Bool} {W : World} (ho : Only (fun _ => False) w W) {f : Nat → List UInt8 × Bool} (hx : x.1.t = (f k).1 ∧ x.2 = (f k).2) (hf : ∀ j, j ≠ k → f j = r.f j) (hok : OkR ⟨f, r.d⟩) :
    Only S w (W.setCells g (k * 5) (clV x)) ∧ RIn S base bx ⟨f, r.d⟩ n (L.set k x) (.slice (some ⟨g, 0, none⟩) L.length c) u (W.setCells g (k * 5) (clV x)) := by
  have hW := h.only ho (fun _ _ h => h)
  obtain ⟨h1, h2⟩ := row_set hW.own hk x
  have hSg := h.inS.2.1 g rfl
  have hO : Only S W (W.setCells g (k * 5) (clV x)) := Only.of_gb h2 (fun j hj => by injection hj with hj; subst hj; exact hSg)
  refine ⟨(ho.mono (fun _ h => h.elim)).trans hO, (h2.block bx (hW.lain bx hW.inS.1).2 (fun e => by injection e with e; exact h.apart.1 (by rw [e]; rfl))).trans hW.head, by rw [List.length_set]; exact h1, ?_, ⟨by rw [List.length_set]; exact h.kept.len, fun j hj => ?_, fun e => by rw [List.length_set] at e; omega⟩, h.few, h.apart, h.inS, hW.lain.mono hO.size, hok⟩
  · exact hW.ended.kept h2 (by
      cases hv : u.ownBlock with
      | none => exact .inl rfl
      | some q => exact .inr (fun e => h.apart.2.2 q (by injection e with e; rw [e]; rfl) hv))
  · rw [List.length_set] at hj
    by_cases hjk : j = k
    · subst hjk; rw [List.getElem_set_self]; exact hx
    · rw [List.getElem_set_ne (Ne.symm hjk)]
      have := h.kept.same j hj
      show _ = (f j).1 ∧ _ = (f j).2
      rw [hf j hjk]; exact this
/-- a call more is done -/
theorem RIn.append (h : RIn S base bx r n L v u w) (hbase : base ≤ w.heap.size) {W4 : World} {g cap k : Nat} (hO4 : Only (fun y => u.ownBlock = some y) w W4)
    (hown4 : W4.ownsRow base 3 1 (.slice (some ⟨g, 0, none⟩) (r.d.length + 1) cap) (r.d.length + 1) (intV r.d ++ [.int .i64 (k : Nat)])) (hl4 : u.ownBlock = some g ∨ w.heap.size ≤ g) :
    (W4.cell? ⟨bx, 1, none⟩ = some u ∧ W4.frozen? ⟨bx, 1, none⟩ = false ∧ bx < W4.heap.size) ∧
    (∀ w5, w5 = W4.setCell ⟨bx, 1, none⟩ (.slice (some ⟨g, 0, none⟩) (r.d.length + 1) cap) → Only S w w5 ∧ RIn (Grow S w w5) base bx ⟨r.f, r.d ++ [k]⟩ (n + 1) L v (.slice (some ⟨g, 0, none⟩) (r.d.length + 1) cap) w5) := by
  have hbx := (h.lain bx h.inS.1).2
  have hh4 : W4.heap[bx]? = some (.cells #[v, u] 56 (0, 0)) := by rw [hO4.block bx hbx h.apart.2.1]; exact h.head
  refine ⟨⟨cell_of_row _ _ _ _ _ _ hh4, frozen_of_row _ _ _ _ _ hh4, lt_of_heap9 hh4⟩, fun w5 hw5 => ?_⟩
  have hgx : g ≠ bx := fun e => by
    rcases hl4 with e2 | e2
    · exact h.apart.2.1 (e ▸ e2)
    · omega
  have ho5 : Only (fun y => y = bx) W4 w5 := by rw [hw5]; exact (Only.refl (fun y => y = bx) W4).set (p := ⟨bx, 1, none⟩) (.inl rfl) _
  have hO : Only S w w5 := (hO4.mono (fun y hy => h.inS.2.2 y hy)).trans (ho5.mono (fun y hy => hy ▸ h.inS.1))
  have hgl := (hown4.lt g rfl).2
  have hs5 : w5.heap.size = W4.heap.size := by rw [hw5]; simp [World.setCell]
  have hva : v.ownBlock ≠ some g := fun e => by
    rcases hl4 with e2 | e2
    · exact h.apart.2.2 g e e2
    · have := (h.own.lt g e).2; omega
  refine ⟨hO, ?_, own_only (own_only h.own hO4 (fun q hq hq2 => h.apart.2.2 q hq hq2)) ho5 (fun q hq e => h.apart.1 (e ▸ hq)), ?_, ⟨h.kept.len, h.kept.same, h.kept.bare⟩, by have := h.few; simp; omega, ⟨h.apart.1, fun e => hgx (by simpa [Value.ownBlock] using e), fun q hq e => hva (by simp [Value.ownBlock] at e; rw [e]; exact hq)⟩, ⟨.inl h.inS.1, fun q hq => .inl (h.inS.2.1 q hq), fun q hq => ?_⟩, h.lain.grow hbase hO.size, h.ok⟩
  · rw [hw5, heap_set hh4]; rfl
  · rw [List.length_append, intV, List.map_append]
    exact own_only hown4 ho5 (fun q hq e => hgx (by simp [Value.ownBlock] at hq; rw [hq]; exact e))
  · simp [Value.ownBlock] at hq
    subst hq
    rcases hl4 with e2 | e2
    · exact .inl (h.inS.2.2 _ e2)
    · exact .inr ⟨e2, by omega⟩
end

section
variable {S : Nat → Prop} {base bx n : Nat} {r : Rcv}
set_option maxRecDepth 100000 in
set_option maxHeartbeats 4000000 in
theorem RTake_any (c a : Int) (t : List UInt8) (l : Bool) (w : World) (h : RInAt S base bx r n w) (hbase : base ≤ w.heap.size) (hn : n ≤ 1048576) (ht : t.length ≤ 9223372036854775807) (hc1 : -9223372036854775808 ≤ c) (hc2 : c ≤ 9223372036854775807) (ha : -9223372036854775808 ≤ a) (ha2 : a ≤ 9223372036854775807) :
    Calls Try.prog 19 #[.pointer (some ⟨bx, 0, none⟩), frmV c a t l] w fun e w' => e = .returned (.tuple #[.int .i64 ((takeP r c a t l).2.1 : Nat), .int .i64 (takeP r c a t l).2.2]) ∧ Only S w w' ∧
      RInAt (Grow S w w') base bx (takeP r c a t l).1 (n + 1) w' := by
  obtain ⟨L, v, u, h⟩ := h
  obtain ⟨A, c6, rfl, hc6, hm6, -⟩ := IsSlice.of_own h.own
  have hx := heap_alloc_new w (.cells #[.int .i64 c, .int .i64 a, .string ⟨t.toArray⟩, .bool l] 37)
  have hb1 : Below w.heap.size w (w.alloc (.cells #[.int .i64 c, .int .i64 a, .string ⟨t.toArray⟩, .bool l] 37)) := (Below.refl _ _).alloc (Nat.le_refl _) _
  have h1 := h.below hb1
  obtain ⟨d0, d1, g0, g1⟩ := h1.facts
  have H := Lib.hid h
  have H1 := Lib.hid h1
  have HX := Lib.hid hx
  have HB1 := Lib.hid hb1
  have HCA := Lib.hid (And.intro (And.intro hc1 hc2) (And.intro ha ha2))
  have HNT := Lib.hid (And.intro hn ht)
  unfold frmV
  clear h h1 hx hb1 hc1 hc2 ha ha2 hn ht
  go_enter Try.func19, Try.ntmps19
  go_upto_if 12 with fail
  generalize hw1 : w.alloc (.cells #[.int .i64 c, .int .i64 a, .string ⟨t.toArray⟩, .bool l] 37) = w1 at *
  go_cut [4] (fun t4 W => t4 = .int .i64 0 ∧ ∃ L' v' S1, L'.length = 64 ∧ Hid (RIn S1 base bx r n L' v' u W) ∧ Hid (Only S w1 W) ∧ Hid (∀ b, S1 b → Grow S w1 W b))
  case first =>
    by_cases hl0 : L.length = 0
    · have hl : ((L.length : Int) == 0) = true := by rw [beq_iff_eq]; omega
      have hmk := run_made w1
      have hb1 : base ≤ w1.heap.size := Nat.le_trans hbase HB1.out.size
      have hmd := H1.out.made hl0 hb1 rfl
      have HMD := Lib.hid hmd
      have hbl := (H1.out.lain bx H1.out.inS.1).2
      clear hmd
      go_wp2_with (fail)
      go_meet
      exact ⟨rfl, zeroL, _, _, rfl, Lib.hid HMD.out.2, Lib.hid HMD.out.1, Lib.hid (fun b hb => hb)⟩
    · have hl : ((L.length : Int) == 0) = false := by rw [beq_eq_false_iff_ne]; omega
      have hl64 : L.length = 64 := by rcases H.out.kept.len with h0 | h0 <;> omega
      go_wp2_with (fail)
      go_meet
      exact ⟨rfl, L, _, S, hl64, H1, Lib.hid (Only.refl _ _), Lib.hid (fun b hb => .inl hb)⟩
  case rest =>
    obtain ⟨rfl, L', v', S1, hL64, HR, HO, HG⟩ := hcut
    obtain ⟨A7, c7, rfl, hc7, hm7, -⟩ := IsSlice.of_own HR.out.own
    rw [hL64] at HR
    have hx1 : wc.heap[w.heap.size]? = some (.cells #[.int .i64 c, .int .i64 a, .string ⟨t.toArray⟩, .bool l] 37 (0, 0)) := by
      rw [HO.out.block _ (lt_of_heap9 HX.out) (fun h => by have := (H.out.lain _ h).2; omega)]; exact HX.out
    have P0 := Lib.hid (cell_of_row wc _ 0 _ _ _ hx1)
    have P1 := Lib.hid (cell_of_row wc _ 1 _ _ _ hx1)
    have P2 := Lib.hid (cell_of_row wc _ 2 _ _ _ hx1)
    have P3 := Lib.hid (cell_of_row wc _ 3 _ _ _ hx1)
    obtain ⟨d0', d1', g0', g1'⟩ := HR.out.facts
    have D0 := Lib.hid d0'
    have HX1 := Lib.hid hx1
    clear d0 d1 g0 g1 d0' d1' g0' g1' hx1
    go_upto_region 3 with fail
    go_cut [59] (fun t59 W => t59 = .bool (!takes r c a t) ∧ Hid (Below wc.heap.size wc W))
    case first =>
      by_cases h0 : c < 0
      · have HT : Hid (takes r c a t = false) := Lib.hid (by unfold takes; rw [decide_eq_true h0]; rfl)
        have b0 : decide (c < 0) = true := decide_eq_true h0
        clear h0
        refine wp_region_below (by kernel_rfl) (by kernel_rfl) ?_
        repeat first
          | (go_big_quiet_want; refine quiet_load_cell 3 _ rfl _ rfl _ _ P0.out Try.underlying3 rfl ?_; simp only [Act.put, List.setIfInBounds_toArray, List.set_cons_succ, List.set_cons_zero]; go_big_quiet_on)
          | go_big_quiet_step (fail)
        refine wpQuiet_nil ?_
        intro W3 hW3
        go_wp2_with (fail)
        go_meet
        exact ⟨by rw [HT.out]; rfl, Lib.hid hW3⟩
      by_cases h64 : 64 ≤ c
      · have HT : Hid (takes r c a t = false) := Lib.hid (by unfold takes; rw [decide_eq_true (p := (64 : Int) ≤ c) h64]; simp)
        have b0 : decide (c < 0) = false := decide_eq_false h0
        have b1 : decide (64 ≤ c) = true := decide_eq_true h64
        clear h0 h64
        refine wp_region_below (by kernel_rfl) (by kernel_rfl) ?_
        repeat first
          | (go_big_quiet_want; refine quiet_load_cell 3 _ rfl _ rfl _ _ P0.out Try.underlying3 rfl ?_; simp only [Act.put, List.setIfInBounds_toArray, List.set_cons_succ, List.set_cons_zero]; go_big_quiet_on)
          | go_big_quiet_step (fail)
        refine wpQuiet_nil ?_
        intro W3 hW3
        go_wp2_with (fail)
        go_meet
        exact ⟨by rw [HT.out]; rfl, Lib.hid hW3⟩
      obtain ⟨k, rfl⟩ := Int.eq_ofNat_of_zero_le (show 0 ≤ c by omega)
      have hk : k < L'.length := by omega
      have hR := HR.out
      rw [← hL64] at hR
      obtain ⟨g, rfl, -, -, hgl, x, -, x1, x2, e0, -, -, -, e4⟩ := hR.at_ hk
      have b0 : decide ((k : Int) < 0) = false := decide_eq_false h0
      have b1 : decide ((64 : Int) ≤ (k : Nat)) = false := decide_eq_false h64
      have hkk : k < 64 := by omega
      have E0 := Lib.hid e0
      have E4 := Lib.hid e4
      have htk : takes r (k : Nat) a t = !(x.2 || decide (a ≠ x.1.t.length) || decide (65536 - (x.1.t.length : Int) < t.length)) := by
        unfold takes
        rw [b0, b1, x1, x2]; rfl
      have htl := (HNT.out.2)
      have hok := (HR.out.ok k).1
      rw [← x1] at hok
      clear h0 h64 hR e0 e4 x1 x2
      obtain ⟨⟨xt, xb, xs, xa⟩, xd⟩ := x
      simp only at *
      cases xd
      case true =>
        have HT : Hid (takes r (k : Nat) a t = false) := Lib.hid (by rw [htk]; rfl)
        clear htk
        refine wp_region_below (by kernel_rfl) (by kernel_rfl) ?_
        repeat first
          | (go_big_quiet_want; refine quiet_load_cell 3 _ rfl _ rfl _ _ P0.out Try.underlying3 rfl ?_; simp only [Act.put, List.setIfInBounds_toArray, List.set_cons_succ, List.set_cons_zero]; go_big_quiet_on)
          | (go_big_quiet_want; refine quiet_load_cell 51 _ rfl _ rfl _ _ D0.out Try.underlying51 rfl ?_; simp only [Act.put, List.setIfInBounds_toArray, List.set_cons_succ, List.set_cons_zero]; go_big_quiet_on)
          | (go_big_quiet_want; refine quiet_load_cell 4 _ rfl _ rfl _ _ E4.out Try.underlying4 rfl ?_; simp only [Act.put, List.setIfInBounds_toArray, List.set_cons_succ, List.set_cons_zero]; go_big_quiet_on)
          | go_big_quiet_step (fail)
        refine wpQuiet_nil ?_
        intro W3 hW3
        go_wp2_with (fail)
        go_meet
        exact ⟨by rw [HT.out]; rfl, Lib.hid hW3⟩
      case false =>
        by_cases hal : a = xt.length
        · subst hal
          by_cases hlong : 65536 - (xt.length : Int) < t.length
          · have HT : Hid (takes r (k : Nat) (xt.length : Nat) t = false) := Lib.hid (by rw [htk]; simp [hlong])
            have b3 : decide (65536 - (xt.length : Int) < (t.length : Nat)) = true := decide_eq_true hlong
            have hww : IntKind.i64.wrap (65536 - (xt.length : Int)) = 65536 - (xt.length : Int) := IntWalk.i64_in _ (by omega)
            clear htk hlong
            refine wp_region_below (by kernel_rfl) (by kernel_rfl) ?_
            repeat first
              | (go_big_quiet_want; refine quiet_load_cell 3 _ rfl _ rfl _ _ P0.out Try.underlying3 rfl ?_; simp only [Act.put, List.setIfInBounds_toArray, List.set_cons_succ, List.set_cons_zero]; go_big_quiet_on)
              | (go_big_quiet_want; refine quiet_load_cell 3 _ rfl _ rfl _ _ P1.out Try.underlying3 rfl ?_; simp only [Act.put, List.setIfInBounds_toArray, List.set_cons_succ, List.set_cons_zero]; go_big_quiet_on)
              | (go_big_quiet_want; refine quiet_load_cell 9 _ rfl _ rfl _ _ P2.out Try.underlying9 rfl ?_; simp only [Act.put, List.setIfInBounds_toArray, List.set_cons_succ, List.set_cons_zero]; go_big_quiet_on)
              | (go_big_quiet_want; refine quiet_load_cell 51 _ rfl _ rfl _ _ D0.out Try.underlying51 rfl ?_; simp only [Act.put, List.setIfInBounds_toArray, List.set_cons_succ, List.set_cons_zero]; go_big_quiet_on)
              | (go_big_quiet_want; refine quiet_load_cell 4 _ rfl _ rfl _ _ E4.out Try.underlying4 rfl ?_; simp only [Act.put, List.setIfInBounds_toArray, List.set_cons_succ, List.set_cons_zero]; go_big_quiet_on)
              | (go_big_quiet_want; refine quiet_load_cell 9 _ rfl _ rfl _ _ E0.out Try.underlying9 rfl ?_; simp only [Act.put, List.setIfInBounds_toArray, List.set_cons_succ, List.set_cons_zero]; go_big_quiet_on)
              | go_big_quiet_step (fail)
            refine wpQuiet_nil ?_
            intro W3 hW3
            go_wp2_with (fail)
            go_meet
            exact ⟨by rw [HT.out]; rfl, Lib.hid hW3⟩
          · have HT : Hid (takes r (k : Nat) (xt.length : Nat) t = true) := Lib.hid (by rw [htk]; simp [hlong])
            have b3 : decide (65536 - (xt.length : Int) < (t.length : Nat)) = false := decide_eq_false hlong
            have hww : IntKind.i64.wrap (65536 - (xt.length : Int)) = 65536 - (xt.length : Int) := IntWalk.i64_in _ (by omega)
            clear htk hlong
            refine wp_region_below (by kernel_rfl) (by kernel_rfl) ?_
            repeat first
              | (go_big_quiet_want; refine quiet_load_cell 3 _ rfl _ rfl _ _ P0.out Try.underlying3 rfl ?_; simp only [Act.put, List.setIfInBounds_toArray, List.set_cons_succ, List.set_cons_zero]; go_big_quiet_on)
              | (go_big_quiet_want; refine quiet_load_cell 3 _ rfl _ rfl _ _ P1.out Try.underlying3 rfl ?_; simp only [Act.put, List.setIfInBounds_toArray, List.set_cons_succ, List.set_cons_zero]; go_big_quiet_on)
              | (go_big_quiet_want; refine quiet_load_cell 9 _ rfl _ rfl _ _ P2.out Try.underlying9 rfl ?_; simp only [Act.put, List.setIfInBounds_toArray, List.set_cons_succ, List.set_cons_zero]; go_big_quiet_on)
              | (go_big_quiet_want; refine quiet_load_cell 51 _ rfl _ rfl _ _ D0.out Try.underlying51 rfl ?_; simp only [Act.put, List.setIfInBounds_toArray, List.set_cons_succ, List.set_cons_zero]; go_big_quiet_on)
              | (go_big_quiet_want; refine quiet_load_cell 4 _ rfl _ rfl _ _ E4.out Try.underlying4 rfl ?_; simp only [Act.put, List.setIfInBounds_toArray, List.set_cons_succ, List.set_cons_zero]; go_big_quiet_on)
              | (go_big_quiet_want; refine quiet_load_cell 9 _ rfl _ rfl _ _ E0.out Try.underlying9 rfl ?_; simp only [Act.put, List.setIfInBounds_toArray, List.set_cons_succ, List.set_cons_zero]; go_big_quiet_on)
              | go_big_quiet_step (fail)
            refine wpQuiet_nil ?_
            intro W3 hW3
            go_wp2_with (fail)
            go_meet
            exact ⟨by rw [HT.out]; rfl, Lib.hid hW3⟩
        · have HT : Hid (takes r (k : Nat) a t = false) := Lib.hid (by rw [htk]; simp [hal])
          have b3 : (a != (xt.length : Int)) = true := by simpa using hal
          clear htk hal
          refine wp_region_below (by kernel_rfl) (by kernel_rfl) ?_
          repeat first
            | (go_big_quiet_want; refine quiet_load_cell 3 _ rfl _ rfl _ _ P0.out Try.underlying3 rfl ?_; simp only [Act.put, List.setIfInBounds_toArray, List.set_cons_succ, List.set_cons_zero]; go_big_quiet_on)
            | (go_big_quiet_want; refine quiet_load_cell 3 _ rfl _ rfl _ _ P1.out Try.underlying3 rfl ?_; simp only [Act.put, List.setIfInBounds_toArray, List.set_cons_succ, List.set_cons_zero]; go_big_quiet_on)
            | (go_big_quiet_want; refine quiet_load_cell 51 _ rfl _ rfl _ _ D0.out Try.underlying51 rfl ?_; simp only [Act.put, List.setIfInBounds_toArray, List.set_cons_succ, List.set_cons_zero]; go_big_quiet_on)
            | (go_big_quiet_want; refine quiet_load_cell 4 _ rfl _ rfl _ _ E4.out Try.underlying4 rfl ?_; simp only [Act.put, List.setIfInBounds_toArray, List.set_cons_succ, List.set_cons_zero]; go_big_quiet_on)
            | (go_big_quiet_want; refine quiet_load_cell 9 _ rfl _ rfl _ _ E0.out Try.underlying9 rfl ?_; simp only [Act.put, List.setIfInBounds_toArray, List.set_cons_succ, List.set_cons_zero]; go_big_quiet_on)
            | go_big_quiet_step (fail)
          refine wpQuiet_nil ?_
          intro W3 hW3
          go_wp2_with (fail)
          go_meet
          exact ⟨by rw [HT.out]; rfl, Lib.hid hW3⟩
    case rest =>
      obtain ⟨rfl, HW⟩ := hcut
      have hR2 := HR.out.below HW.out
      have hO2 := HO.out.trans (Only.of_below HW.out)
      have hx2 := (HW.out.block _ (lt_of_heap9 HX1.out)).trans HX1.out
      have hG2 : ∀ b, S1 b → Grow S w1 wc b := fun b hb => by
        rcases HG.out b hb with h | h
        · exact .inl h
        · exact .inr ⟨h.1, Nat.lt_of_lt_of_le h.2 HW.out.size⟩
      have HR2 := Lib.hid hR2
      have HO2 := Lib.hid hO2
      have HX2 := Lib.hid hx2
      have HG2 := Lib.hid hG2
      clear hR2 hO2 hx2 hG2 HR HO HX1 HG HW D0 P0 P1 P2 P3
      cases htk : takes r c a t
      case false =>
        have HE : Hid (takeP r c a t l = (r, 0, 160)) := Lib.hid (by unfold takeP; rw [htk]; rfl)
        simp only [Bool.not_false]
        clear htk
        have hO : Only S w wc := (Only.of_below HB1.out).trans HO2.out
        have hfin : RInAt (Grow S w wc) base bx r (n + 1) wc := ⟨L', _, u, HR2.out.wider (fun b hb => by
          rcases HG2.out b hb with h | h
          · exact .inl h
          · exact .inr ⟨Nat.le_trans HB1.out.size h.1, h.2⟩) (H.out.lain.grow hbase hO.size) (by omega)⟩
        have HFIN := Lib.hid (And.intro hO hfin)
        clear hO hfin
        go_wp2_with (fail)
        go_ret2
        exact ⟨by rw [HE.out]; rfl, HFIN.out.1, by rw [HE.out]; exact HFIN.out.2⟩
      case true =>
        simp only [Bool.not_true]
        have hkc : ∃ k : Nat, c = (k : Nat) ∧ k < 64 ∧ (r.f k).2 = false ∧ a = ((r.f k).1.length : Nat) ∧ (r.f k).1.length + t.length ≤ 65536 := by
          unfold takes at htk
          simp at htk
          exact ⟨c.toNat, by omega, by omega, htk.1.1.2, htk.1.2, by omega⟩
        obtain ⟨k, rfl, hk, hf2, hal, hlen⟩ := hkc
        generalize wc = W2 at *
        have hR := HR2.out
        rw [← hL64] at hR
        obtain ⟨g, rfl, hSg, hgx, hgl, x, -, x1, x2, e0, e1, e2, e3, e4⟩ := hR.at_ (show k < L'.length by omega)
        rw [hL64] at hR
        have hHE : takeP r (k : Nat) a t l = (⟨fun j => if j = k then (x.1.t ++ t, l) else r.f j, if l then r.d ++ [k] else r.d⟩, (x.1.t ++ t).length, 0) := by
          unfold takeP; rw [htk]; simp only [if_true, Int.toNat_natCast]; rw [x1]
        have HE := Lib.hid hHE
        have hokr := HR2.out.ok.take (k : Nat) a t l
        rw [hHE] at hokr
        simp only at hokr
        rw [x1] at hHE
        obtain ⟨⟨xt, xb, xs, xa⟩, xd⟩ := x
        simp only at x1 x2 e0 e1 e2 e3 e4 hokr HE
        rw [hf2] at x2
        subst x2
        rw [← x1] at hal hlen
        have HOKR := Lib.hid hokr
        have HLEN := Lib.hid hlen
        have hal2 := hal
        have p0 := cell_of_row W2 _ 0 _ _ _ HX2.out
        have d0 := hR.facts.1
        have hbxl := (hR.lain bx hR.inS.1).2
        have hfbl := lt_of_heap9 HX2.out
        simp at p0
        have q0 : ∀ o, (World.drew (W2.alloc o)).cell? ⟨bx, 0, none⟩ = some (.slice (some ⟨g, 0, none⟩) 64 c7) := fun o => by show (W2.alloc o).cell? _ = _; rw [World.cell?_alloc_lt _ _ _ hbxl]; exact d0
        have q1 : ∀ o, (World.drew (W2.alloc o)).cell? ⟨w.heap.size, 0, none⟩ = some (.int .i64 (k : Nat)) := fun o => by show (W2.alloc o).cell? _ = _; rw [World.cell?_alloc_lt _ _ _ hfbl]; exact p0
        have r0 : ∀ o, (World.drew (W2.alloc o)).cell? ⟨g, k * 5, none⟩ = some (.string ⟨xt.toArray⟩) := fun o => by show (W2.alloc o).cell? _ = _; rw [World.cell?_alloc_lt _ _ _ hgl]; exact e0
        have r1 : ∀ o, (World.drew (W2.alloc o)).cell? ⟨g, k * 5 + 1, none⟩ = some (.int .i64 (xs : Nat)) := fun o => by show (W2.alloc o).cell? _ = _; rw [World.cell?_alloc_lt _ _ _ hgl]; exact e1
        have r2 : ∀ o, (World.drew (W2.alloc o)).cell? ⟨g, k * 5 + 2, none⟩ = some (.int .i64 (xa : Nat)) := fun o => by show (W2.alloc o).cell? _ = _; rw [World.cell?_alloc_lt _ _ _ hgl]; exact e2
        have r3 : ∀ o, (World.drew (W2.alloc o)).cell? ⟨g, k * 5 + 3, none⟩ = some (.bool xb) := fun o => by show (W2.alloc o).cell? _ = _; rw [World.cell?_alloc_lt _ _ _ hgl]; exact e3
        have r4 : ∀ o, (World.drew (W2.alloc o)).cell? ⟨g, k * 5 + 4, none⟩ = some (.bool false) := fun o => by show (W2.alloc o).cell? _ = _; rw [World.cell?_alloc_lt _ _ _ hgl]; exact e4
        have HXX := Lib.hid x1
        clear hR htk hHE hokr hlen hf2 x1 hal hal2
        go_upto_region 5 with fail
        go_cut [6] (fun t6 W => t6 = .pointer (some ⟨W2.heap.size, 0, none⟩) ∧ W = World.drew (W2.alloc (.cells #[.string ⟨xt.toArray⟩, .int .i64 (xs : Nat), .int .i64 (xa : Nat), .bool xb, .bool false] 87)))
        case first =>
          have hki : (k : Int) < 64 := by omega
          have hk0 : (0 : Int) ≤ k := by omega
          go_region_held3 (fun W => W.cell? ⟨bx, 0, none⟩ = some (.slice (some ⟨g, 0, none⟩) 64 c7) ∧ W.cell? ⟨w.heap.size, 0, none⟩ = some (.int .i64 (k : Nat)) ∧ W.cell? ⟨g, k * 5, none⟩ = some (.string ⟨xt.toArray⟩) ∧ W.cell? ⟨g, k * 5 + 1, none⟩ = some (.int .i64 (xs : Nat)) ∧ W.cell? ⟨g, k * 5 + 2, none⟩ = some (.int .i64 (xa : Nat)) ∧ W.cell? ⟨g, k * 5 + 3, none⟩ = some (.bool xb) ∧ W.cell? ⟨g, k * 5 + 4, none⟩ = some (.bool false)) (first | exact ⟨d0, p0, e0, e1, e2, e3, e4⟩ | exact ⟨q0 _, q1 _, r0 _, r1 _, r2 _, r3 _, r4 _⟩) (fail)
          all_goals
            go_wp2_with (fail)
            go_meet
            exact ⟨rfl, rfl⟩
        case rest =>
          obtain ⟨rfl, hw5⟩ := hcut
          clear q0 q1 r0 r1 r2 r3 r4 d0 p0 e0 e1 e2 e3 e4
          have hO5 : Only (fun _ => False) W2 wc := by rw [hw5]; exact ((Only.refl _ _).alloc _).drew
          have hr5 : wc.heap[W2.heap.size]? = some (.cells #[.string ⟨xt.toArray⟩, .int .i64 (xs : Nat), .int .i64 (xa : Nat), .bool xb, .bool false] 87 (0, 0)) := by rw [hw5]; exact heap_alloc_new _ _
          have hx5 : wc.heap[w.heap.size]? = some (.cells #[.int .i64 (k : Nat), .int .i64 a, .string ⟨t.toArray⟩, .bool l] 37 (0, 0)) := (hO5.block _ hfbl (fun h => h)).trans HX2.out
          have hR5 := HR2.out.only hO5 (fun _ _ h => h)
          clear hw5
          have y0 := cell_of_row wc _ 0 _ _ _ hr5
          have y3 := cell_of_row wc _ 3 _ _ _ hr5
          have y4 := cell_of_row wc _ 4 _ _ _ hr5
          have z0 := frozen_of_row wc _ 0 _ _ hr5
          have z3 := frozen_of_row wc _ 3 _ _ hr5
          have z4 := frozen_of_row wc _ 4 _ _ hr5
          have p2 := cell_of_row wc _ 2 _ _ _ hx5
          have p3 := cell_of_row wc _ 3 _ _ _ hx5
          simp at y0 y3 y4 p2 p3
          have hne : w.heap.size ≠ W2.heap.size := by omega
          have hln : xt.length + t.length ≤ 65536 := HLEN.out
          obtain ⟨W6, hW6⟩ : ∃ W6, ((wc.setCell ⟨W2.heap.size, 0, none⟩ (.string ⟨(xt ++ t).toArray⟩)).setCell ⟨W2.heap.size, 3, none⟩ (.bool true)).setCell ⟨W2.heap.size, 4, none⟩ (.bool l) = W6 := ⟨_, rfl⟩
          have hr6 : W6.heap[W2.heap.size]? = some (.cells #[.string ⟨(xt ++ t).toArray⟩, .int .i64 (xs : Nat), .int .i64 (xa : Nat), .bool true, .bool l] 87 (0, 0)) := by rw [← hW6, heap_set (heap_set (heap_set hr5 _ _) _ _)]; rfl
          have hx6 : W6.heap[w.heap.size]? = some (.cells #[.int .i64 (k : Nat), .int .i64 a, .string ⟨t.toArray⟩, .bool l] 37 (0, 0)) := by rw [← hW6]; exact (heap_set_ne9 hne _ _).trans ((heap_set_ne9 hne _ _).trans ((heap_set_ne9 hne _ _).trans hx5))
          have hO6 : Only (fun _ => False) W2 W6 := by rw [← hW6]; exact ((hO5.set (.inr (Nat.le_refl _)) _).set (.inr (Nat.le_refl _)) _).set (.inr (Nat.le_refl _)) _
          have hR6 := HR2.out.only hO6 (fun _ _ h => h)
          have HR6 := Lib.hid hR6
          have D6 := Lib.hid hR6.facts.1
          have HX6 := Lib.hid hx6
          have P6 := Lib.hid (cell_of_row W6 _ 0 _ _ _ hx6)
          have HC6 := Lib.hid hr6
          have HO6 := Lib.hid hO6
          have HW6 := Lib.hid hW6
          clear hW6 hr6 hx6 hO6 hR6 hR5 hx5 hr5 hO5
          go_wp2_with (fail)
          rw [HW6.out]
          clear y0 y3 y4 z0 z3 z4 p2 p3
          refine wp_region_quiet_tail 8 (by kernel_rfl) (by kernel_rfl) ?_
          simp only [List.take, List.drop]
          repeat first
            | (go_big_quiet_want; refine quiet_load_cell 51 _ rfl _ rfl _ _ D6.out Try.underlying51 rfl ?_; simp only [Act.put, List.setIfInBounds_toArray, List.set_cons_succ, List.set_cons_zero]; go_big_quiet_on)
            | (go_big_quiet_want; refine quiet_load_cell 3 _ rfl _ rfl _ _ P6.out Try.underlying3 rfl ?_; simp only [Act.put, List.setIfInBounds_toArray, List.set_cons_succ, List.set_cons_zero]; go_big_quiet_on)
            | (go_big_quiet_want; refine quiet_load_row 87 _ rfl _ rfl _ _ _ _ HC6.out Try.underlying87 rfl infoCallS ?_; simp only [Act.put, List.setIfInBounds_toArray, List.set_cons_succ, List.set_cons_zero]; go_big_quiet_on)
            | go_big_quiet_step (fail)
          refine wpQuiet_nil ?_
          intro W7 hW7
          have hO7 : Only (fun _ => False) W2 W7 := HO6.out.trans (Only.of_below hW7)
          have hR2' := HR2.out
          rw [← hL64] at hR2'
          have hR7' := hR2'.only hO7 (fun _ _ h => h)
          have hth := row_there hR7'.own (j := k) (by omega)
          obtain ⟨hs1, hs2⟩ := hR2'.row (k := k) (by omega) hL64 (x := (⟨xt ++ t, true, xs, xa⟩, l)) hO7 (f := fun j => if j = k then (xt ++ t, l) else r.f j) (by simp) (fun j hj => by simp [hj]) (fun j => HOKR.out j)
          have hgfb : w.heap.size ≠ g := fun e => by
            rcases HG2.out g hSg with h | h
            · have := (H.out.lain g h).2; omega
            · have := lt_of_heap9 HX.out; omega
          have hx8 := (setCells_ne9 (clV (⟨xt ++ t, true, xs, xa⟩, l)) (k * 5) W7 hgfb).trans ((hW7.block _ (lt_of_heap9 HX6.out)).trans HX6.out)
          have hr8 := (setCells_ne9 (clV (⟨xt ++ t, true, xs, xa⟩, l)) (k * 5) W7 (g := g) (x := W2.heap.size) (by omega)).trans ((hW7.block _ (lt_of_heap9 HC6.out)).trans HC6.out)
          refine wpList_store_mid rfl 87 (.tmp 85) (.tmp 84) rfl g (k * 5) #[.string ⟨(xt ++ t).toArray⟩, .int .i64 (xs : Nat), .int .i64 (xa : Nat), .bool true, .bool l] rfl rfl hth infoCallS (by simp [Value.oneCell']) ?_
          obtain ⟨W8, hW8⟩ : ∃ W8, W7.setCells g (k * 5) (clV (⟨xt ++ t, true, xs, xa⟩, l)) = W8 := ⟨_, rfl⟩
          rw [hW8] at hs1 hs2 hx8 hr8
          rw [show W7.setCells g (k * 5) (#[.string ⟨(xt ++ t).toArray⟩, .int .i64 (xs : Nat), .int .i64 (xa : Nat), .bool true, .bool l] : Array Value).toList = W8 from hW8]
          rw [hL64] at hs2
          have hO8 : Only S w W8 := by
            refine ((Only.of_below HB1.out).trans HO2.out).more (hs1.mono (fun b hb => ?_))
            rcases HG2.out b hb with h | h
            · exact .inl h
            · exact .inr ⟨Nat.le_trans HB1.out.size h.1, h.2⟩
          have y0 := cell_of_row W8 _ 0 _ _ _ hr8
          have p3 := cell_of_row W8 _ 3 _ _ _ hx8
          have p0 := cell_of_row W8 _ 0 _ _ _ hx8
          simp at y0 p0 p3
          have HS1 := Lib.hid hs1
          have HS2 := Lib.hid hs2
          have HX8 := Lib.hid hx8
          have HR8 := Lib.hid hr8
          have HO8 := Lib.hid hO8
          have hsz8 := hs1.size
          clear hW8 hs1 hs2 hx8 hr8 hO8 hR2' hR7' hth hW7 hO7
          have hln : xt.length + t.length ≤ 65536 := HLEN.out
          cases l
          case false =>
            have hwd : RInAt (Grow S w W8) base bx ⟨fun j => if j = k then (xt ++ t, false) else r.f j, r.d⟩ (n + 1) W8 := ⟨_, _, u, HS2.out.wider (fun b hb => by
              rcases HG2.out b hb with h | h
              · exact .inl h
              · exact .inr ⟨Nat.le_trans HB1.out.size h.1, by omega⟩) (H.out.lain.grow hbase HO8.out.size) (by omega)⟩
            have HWD := Lib.hid hwd
            clear hwd
            go_wp2_with (fail)
            go_ret2
            exact ⟨by rw [HE.out]; simp, HO8.out, by rw [HE.out]; exact HWD.out⟩
          case true =>
            obtain ⟨i0, hi, hz0, hz1, hz2⟩ := info_parts info_intR
            have HI := Lib.hid (And.intro hi (And.intro hz0 (And.intro hz1 hz2)))
            have hfew : r.d.length ≤ n := HS2.out.few
            have hn := HNT.out.1
            have hown8 : W8.ownsRow base 3 1 u r.d.length (intV r.d) := HS2.out.ended
            have HOWN8 := Lib.hid hown8
            have hb8 : base ≤ W8.heap.size := Nat.le_trans hbase HO8.out.size
            have d1 := HS2.out.facts.2.1
            have g1 := HS2.out.facts.2.2.2
            have hbx8 : bx < W8.heap.size := (HS2.out.lain bx HS2.out.inS.1).2
            have hcb8 := lt_of_heap9 HR8.out
            have hfb8 := lt_of_heap9 HX8.out
            clear hi hz0 hz1 hz2 hown8
            go_wp2_with (fail)
            go_region_law (refine step_append_lies _ rfl _ _ 25 rfl base 3 i0 (.int .i64 0) 1 8 Try.underlying25 HI.out.1 HI.out.2.1 HI.out.2.2.1 HI.out.2.2.2 rfl (by decide) _ _ _ rfl ((show (World.drew W8).ownsRow base 3 1 u r.d.length (intV r.d) from HOWN8.out).alloc _) ⟨W8.heap.size, 0, none⟩ 1 1 [.int .i64 (k : Nat)] rfl rfl (laid_one (World.drew W8) _ _) (one_oneCell rfl) (by decide) (by unfold maxLen; omega) (by omega) (by show base ≤ (World.alloc (World.drew W8) _).heap.size; simp; omega) (W8.heap.size + 1) (by simp) ?_; intro g4 cap w4 hown4 hg4 hl4 hgl4; have hO4 := (((Only.refl (fun y => u.ownBlock = some y) W8).drew).alloc _).more (Only.of_gb hg4 (fun g' hg' => .inl hg')); obtain ⟨⟨c41, f41, b41⟩, hfin⟩ := HS2.out.append hb8 hO4 hown4 (hl4.imp id (fun e => by omega)); have HFIN := Lib.hid hfin; clear hfin hO4 hown4 hg4)
            all_goals
              obtain ⟨ho9, hr9⟩ := HFIN.out _ rfl
              clear HFIN c41 f41 b41
              generalize World.setCell w4 _ _ = w5 at *
              have hcbS : ¬ S1 W2.heap.size := fun h => by
                rcases HG2.out _ h with h | h
                · have := (H.out.lain _ h).2; have := HB1.out.size; have := HO2.out.size; omega
                · omega
              have y9 : w5.cell? ⟨W2.heap.size, 0, none⟩ = some (.string ⟨(xt ++ t).toArray⟩) := by
                have := cell_of_row w5 W2.heap.size 0 _ _ _ ((ho9.block _ hcb8 hcbS).trans HR8.out)
                simpa using this
              have hO9 : Only S w w5 := HO8.out.more (ho9.mono (fun b hb => by
                rcases HG2.out b hb with h | h
                · exact .inl h
                · exact .inr ⟨Nat.le_trans HB1.out.size h.1, by omega⟩))
              have hwd : RInAt (Grow S w w5) base bx ⟨fun j => if j = k then (xt ++ t, true) else r.f j, r.d ++ [k]⟩ (n + 1) w5 := ⟨_, _, _, hr9.wider (fun b hb => by
                rcases hb with hb | hb
                · rcases HG2.out b hb with h | h
                  · exact .inl h
                  · exact .inr ⟨Nat.le_trans HB1.out.size h.1, by have := ho9.size; omega⟩
                · exact .inr ⟨Nat.le_trans HO8.out.size hb.1, hb.2⟩) (H.out.lain.grow hbase hO9.size) (Nat.le_refl _)⟩
              have HWD := Lib.hid hwd
              have HO9 := Lib.hid hO9
              clear hwd hO9 hcbS ho9 hr9 y0 p0 p3 d1 g1
              go_wp2_with (fail)
              go_ret2
              exact ⟨by rw [HE.out]; simp, HO9.out, by rw [HE.out]; exact HWD.out⟩
end
end Go.Proofs.Ytknoedlelmflhaa
