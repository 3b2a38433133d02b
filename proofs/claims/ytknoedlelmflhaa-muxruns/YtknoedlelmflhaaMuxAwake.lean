/- awake: a text is sent in pieces. -/
import Derived.Test.YtknoedlelmflhaaMux5
import Derived.Test.YtknoedlelmflhaaMux7
import Derived.RegionTactic
namespace Go.Proofs.Ytknoedlelmflhaa
open Go.RowKit Plain

def abcdef : List UInt8 := [97, 98, 99, 100, 101, 102]
theorem abc_put : putP [] abcdef = ([⟨abcdef, false, 0, 0⟩], 0) := by kernel_rfl
theorem abc_send : sendV 4 3 [⟨abcdef, false, 0, 0⟩] 0 = .tuple #[frmV 0 0 [97, 98, 99] false, .bool true] := by kernel_rfl
theorem abc_sent : sendS 4 3 [⟨abcdef, false, 0, 0⟩] 0 = [⟨abcdef, true, 3, 0⟩] := by kernel_rfl
theorem abc_take : (takeP rcv0 0 0 [97, 98, 99] false).2 = (3, 0) := by kernel_rfl

theorem Take_any {S : Nat → Prop} {base bi n : Nat} {r : Rcv} (c a : Int) (t : List UInt8) (l : Bool) (w : World) (h : InAt S base bi r n w) (hbase : base ≤ w.heap.size) (hn : n ≤ 1048576) (ht : t.length ≤ 9223372036854775807) (ha : -9223372036854775808 ≤ a) (ha2 : a ≤ 9223372036854775807) :
    Calls Try.prog 14 #[.pointer (some ⟨bi, 0, none⟩), frmV c a t l] w fun e w' => e = .returned (.tuple #[.int .i64 ((takeP r c a t l).2.1 : Nat), .int .i64 (takeP r c a t l).2.2]) ∧ Only S w w' ∧
      InAt (Grow S w w') base bi (takeP r c a t l).1 (n + 1) w' := by
  by_cases hc : c < 0 ∨ 64 ≤ c
  · have ht' : takes r c a t = false := by
      unfold takes
      rcases hc with hc | hc
      · rw [decide_eq_true hc]; rfl
      · rw [decide_eq_true (p := (64 : Int) ≤ c) hc]; simp
    have e : takeP r c a t l = (r, 0, 160) := by unfold takeP; rw [ht']; rfl
    rw [e]
    refine (Take_out c a t l w hc bi).mono ?_
    rintro e' w1 ⟨rfl, h1⟩
    obtain ⟨m, Pb, v, h2⟩ := h
    exact ⟨rfl, Only.of_below h1, m, Pb, v, (h2.below h1).wider (fun b hb => .inl hb) (h2.lain.grow hbase h1.size) (by omega)⟩
  · obtain ⟨k, rfl⟩ := Int.eq_ofNat_of_zero_le (show 0 ≤ c by omega)
    exact Take_in k a t l w h hbase (by omega) hn ht ha ha2

set_option maxHeartbeats 2000000 in
theorem awake_any (w : World) : Calls Try.prog 6 #[] w (Ret w (.bool true)) := by
  have hN := NewOut_any (fun _ => False) w.heap.size 4 3 w (by decide) (by decide) (fun b h => h.elim) (Nat.le_refl _)
  go_enter Try.func6, Try.ntmps6
  go_wp2_with (fail)
  refine hN.mono ?_
  rintro e w1 ⟨rfl, hb1, ho1⟩
  go_wp2_with (fail)
  have hP := Put_any abcdef w1 ho1 hb1.size (by decide)
  rw [abc_put] at hP
  refine hP.mono ?_
  rintro e w2 ⟨rfl, h2, ho2⟩
  go_wp2_with (fail)
  have hS := Send_any (pick := 0) w2 ho2 (by decide) (by decide) (by decide) (by decide)
  rw [abc_send, abc_sent] at hS
  refine hS.mono ?_
  rintro e w3 ⟨rfl, h3, ho3⟩
  have hb2 : Below w.heap.size w w2 := hb1.trans (h2.below hb1.size (fun b hb => hb.1))
  have hb3 : Below w.heap.size w w3 := hb2.trans (h3.below (Nat.le_trans hb1.size h2.size) (fun b hb => by rcases hb with hb | hb; exact hb.1; have := hb1.size; omega))
  unfold frmV
  go_wp2_with (fail)
  have hb4 : Below w.heap.size w (w3.alloc (.cells #[.int .i64 0, .int .i64 0, .string ⟨#[97, 98, 99]⟩, .bool false] 37)) := hb3.alloc hb3.size _
  have ho4 := ho3.below ((Below.refl w3.heap.size w3).alloc (Nat.le_refl _) (.cells #[.int .i64 0, .int .i64 0, .string ⟨#[97, 98, 99]⟩, .bool false] 37))
  have hr4 : (w3.alloc (.cells #[.int .i64 0, .int .i64 0, .string ⟨#[97, 98, 99]⟩, .bool false] 37)).heap[w3.heap.size]? = some (.cells #[.int .i64 0, .int .i64 0, .string ⟨#[97, 98, 99]⟩, .bool false] 37 (0, 0)) := heap_alloc_new w3 _
  have hs3 := hb3.size
  generalize hW4 : World.alloc w3 _ = w4 at *
  have q0 := cell_of_row w4 w3.heap.size 0 _ _ _ hr4
  have q1 := cell_of_row w4 w3.heap.size 1 _ _ _ hr4
  have q2 := cell_of_row w4 w3.heap.size 2 _ _ _ hr4
  have q3 := cell_of_row w4 w3.heap.size 3 _ _ _ hr4
  simp at q0 q1 q2 q3
  have hlt4 := (Array.getElem?_eq_some_iff.1 hr4).1
  have HO4 := Lib.hid ho4
  have HB4 := Lib.hid hb4
  clear hW4 hr4 ho4 hb4 hN hP hS hb1 hb2 hb3 h2 h3 ho1 ho2 ho3
  go_region_with (first
    | (go_at_call 8; refine (NewIn_any w.heap.size _ (by have := HB4.out.size; exact this)).mono ?_; rintro e w5 ⟨rfl, hb5, hi5⟩; have q50 := (hb5.cell (p := ⟨w3.heap.size, 0, none⟩) hlt4).trans q0; have q51 := (hb5.cell (p := ⟨w3.heap.size, 1, none⟩) hlt4).trans q1; have q52 := (hb5.cell (p := ⟨w3.heap.size, 2, none⟩) hlt4).trans q2; have q53 := (hb5.cell (p := ⟨w3.heap.size, 3, none⟩) hlt4).trans q3)
    | (go_at_call 14; refine (Take_any 0 0 [97, 98, 99] false _ hi5 (by have := HB4.out.size; have := hb5.size; simp at *; omega) (by decide) (by decide) (by decide) (by decide)).mono ?_; rw [abc_take]; rintro e w6 ⟨rfl, h6, hi6⟩))
  all_goals
    have hs4 : w4.heap.size ≤ w5.heap.size := hb5.size
    have hbl4 : Below w4.heap.size w4 w5 := ⟨hb5.os, hb5.tape, hb5.output, hb5.size, hb5.block⟩
    have ho5 := HO4.out.below hbl4
    have hdis : Dis (Grow (fun b => w.heap.size ≤ b ∧ b < w1.heap.size) w1 w2) (fun b => w4.drew.heap.size ≤ b ∧ b < w5.heap.size) := fun b hb ht => by
      obtain ⟨v', ps', h'⟩ := HO4.out
      have := (h'.lain b hb).2
      have ht1 : w4.heap.size ≤ b := ht.1
      omega
    have ho6 := ho5.only h6 hdis
    have hq6 : w6.heap[w3.heap.size]? = w5.heap[w3.heap.size]? := h6.block _ (by omega) (fun ht => by have ht1 : w4.heap.size ≤ w3.heap.size := ht.1; omega)
    have q60 := (World.cell?_of_block (a := ⟨w3.heap.size, 0, none⟩) hq6).trans q50
    have q61 := (World.cell?_of_block (a := ⟨w3.heap.size, 1, none⟩) hq6).trans q51
    have q62 := (World.cell?_of_block (a := ⟨w3.heap.size, 2, none⟩) hq6).trans q52
    have q63 := (World.cell?_of_block (a := ⟨w3.heap.size, 3, none⟩) hq6).trans q53
    have hb6 : Below w.heap.size w w6 := (HB4.out.trans (hbl4.mono HB4.out.size)).trans (h6.below (by have := HB4.out.size; omega) (fun b hb => by have := HB4.out.size; have h1 : w4.heap.size ≤ b := hb.1; omega))
    have hway := Way_any 0 w6 ho6
    rw [show wayP [⟨abcdef, true, 3, 0⟩] 0 = 3 by kernel_rfl] at hway
    have HWAY := Lib.hid hway
    clear hway
    have HB6 := Lib.hid hb6
    clear hs4 hbl4 ho5 hdis ho6 hq6 hb6 h6 hi6 hb5 hi5 q50 q51 q52 q53 q0 q1 q2 q3 HO4 HB4
    go_wp2_with (fail)
    refine HWAY.out.mono ?_
    rintro e w7 ⟨rfl, h7⟩
    go_wp2_with (fail)
    go_ret
    exact ⟨rfl, HB6.out.trans (h7.mono HB6.out.size)⟩
end Go.Proofs.Ytknoedlelmflhaa
