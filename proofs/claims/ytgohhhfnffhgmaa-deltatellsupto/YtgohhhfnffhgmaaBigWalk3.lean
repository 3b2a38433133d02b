/- hawserref04.primes, Table: the first primes; the first values and the rounds' constants. -/
import Derived.Test.YtgohhhfnffhgmaaBigWalk2
import Derived.Test.YtgohhhfnffhgmaaTwo
import Derived.Test.YtgohhhfnffhgmaaSha1
namespace Go.Proofs.Ytgohhhfnffhgmaa
open Go.RowKit Plain

/-- a new row of cells -/
def RowOut (w : World) (e0 : TypeId) (n : Nat) (xs : List Value) (e : Ending) (w' : World) : Prop := ∃ v, e = .returned v ∧ w'.ownsRow w.heap.size e0 1 v n xs ∧ Below w.heap.size w w'

theorem all_take_succ {α : Type} (l : List α) (p : α → Bool) (k : Nat) (h : k < l.length) : (l.take (k + 1)).all p = ((l.take k).all p && p l[k]) := by
  rw [List.take_succ_eq_append_getElem h, List.all_append]; simp

set_option maxRecDepth 100000 in
set_option maxHeartbeats 1000000 in
theorem primes_any (w : World) : Calls Try.prog 42 #[.int .i64 64] w (RowOut w 79 64 (u64s PRIMES)) := by
  obtain ⟨i0, hi, hz0, hz1, hz2⟩ := info_parts info_u64
  go_enter Try.func42, Try.ntmps42
  go_wp2_with (fail)
  go_loopw [3, 4] (fun t3 t4 W => ∃ n : Nat, n ≤ 310 ∧ t4 = .int .u64 ((n + 2 : Nat) : Int) ∧ W.ownsRow w.heap.size 79 1 t3 (sieve n).length (u64s (sieve n)) ∧ Hid (Below w.heap.size w W)) (fun _ t4 _ => 312 - (intOf t4).toNat)
  case atStart => exact ⟨0, by omega, rfl, World.ownsRow_nil _ _ _ _, Lib.hid (Below.refl _ _)⟩
  case round =>
    obtain ⟨n, hn, rfl, hown, HB⟩ := hrel
    obtain ⟨A, c, rfl, hc, hm, hr⟩ := IsSlice.of_own hown
    by_cases hlt : n < 310
    · have hl64 := sieve_lt hlt
      have hpos := Lib.hid (sieve_pos n)
      have hnext : sieve (n + 1) = sieve1 (sieve n) (n + 2) := rfl
      have HN := Lib.hid hnext
      clear hnext
      have e2 : ((n + 2 : Nat) : Int) = (n : Int) + 2 := by omega
      rw [e2]
      generalize sieve n = l at *
      clear e2
      go_wp2_with (fail)
      go_loop [5, 6] (fun t5 t6 => ∃ i : Nat, i ≤ l.length ∧ t6 = .int .i64 i ∧ t5 = .bool ((l.take i).all (fun q => (n + 2) % q != 0))) (fun _ t6 => l.length - (intOf t6).toNat)
      case atStart => exact ⟨0, by omega, rfl, by simp⟩
      case round =>
        obtain ⟨i, hil, rfl, rfl⟩ := hrel
        by_cases hin : i < l.length
        · obtain ⟨ad, rfl, ca⟩ := hr.u64_at hin
          have hq := hpos.out (l.getD i 0) (by rw [List.getD_eq_getElem?_getD, List.getElem?_eq_getElem hin]; exact List.getElem_mem hin)
          have hs := all_take_succ l (fun q => (n + 2) % q != 0) i hin
          rw [show l[i] = l.getD i 0 by rw [List.getD_eq_getElem?_getD, List.getElem?_eq_getElem hin]; rfl] at hs
          generalize l.getD i 0 = q at *
          have HS := Lib.hid hs
          clear hs
          generalize (l.take i).all (fun q => (n + 2) % q != 0) = b at *
          have q0 : ((q : Int) == 0) = false := by simp; omega
          have hm : ((n : Int) + 2) % q = (((n + 2) % q : Nat) : Int) := by push_cast; rfl
          by_cases hz : (n + 2) % q = 0
          · have hB : ((((n : Int) + 2) % q) == 0) = true := by rw [hm, hz]; rfl
            clear hm
            go_wp2_with (fail)
            go_round
            case rel => exact ⟨i + 1, by omega, by go_num, by rw [HS.out, hz]; simp⟩
            case measure => simp [intOf]; omega
          · have hB : ((((n : Int) + 2) % q) == 0) = false := by rw [hm]; simp; omega
            clear hm
            go_wp2_with (fail)
            go_round
            case rel => exact ⟨i + 1, by omega, by go_num, by rw [HS.out]; simp [hz]⟩
            case measure => simp [intOf]; omega
        · obtain rfl : i = l.length := by omega
          rw [List.take_of_length_le (Nat.le_refl _)]
          rcases hb : l.all (fun q => (n + 2) % q != 0) with _ | _
          · have hN2 := HN.out
            unfold sieve1 at hN2
            rw [hb] at hN2
            have HN2 := Lib.hid hN2
            clear hb hN2 HN
            go_wp2_with (fail)
            go_roundw
            case rel => exact ⟨n + 1, by omega, by go_num, by rw [HN2.out]; exact hown, HB⟩
            case measure => simp [intOf]; omega
          · have hN2 := HN.out
            unfold sieve1 at hN2
            rw [hb] at hN2
            have HN2 := Lib.hid hN2
            clear hb hN2 HN
            go_wp2_with (at_builtin; refine wpList_append_own _ rfl _ _ 98 rfl w.heap.size 79 i0 (.int .u64 0) 1 8 Try.underlying98 hi hz0 hz1 hz2 rfl (by decide) _ _ _ rfl (hown.alloc _) ⟨wr.heap.size, 0, none⟩ 1 1 [.int .u64 ((n : Int) + 2)] rfl rfl (laid_one _ _ _) (one_oneCell rfl) ?d3 ?d4 ?d5 ?_)
            case d3 => unfold maxLen; omega
            case d4 => omega
            case d5 => have := HB.out.size; simp; omega
            intro v' w2 hown' hgrow _
            have hb2 := (HB.out.alloc HB.out.size (.cells #[.int .u64 ((n : Int) + 2)] 79)).grown hgrow (by have := HB.out.size; simp; omega) (fun k hk => (hown.lt k hk).1)
            have HB2 := Lib.hid hb2
            clear hgrow hb2
            go_wp2_with (fail)
            go_roundw
            case rel => exact ⟨n + 1, by omega, by go_num, by rw [HN2.out]; simpa [u64s] using hown', HB2⟩
            case measure => simp [intOf]; omega
    · obtain rfl : n = 310 := by omega
      rw [sieve_310] at hr hown ⊢
      have hl : PRIMES.length = 64 := rfl
      rw [hl] at hr hown ⊢
      go_wp2_with (fail)
      go_ret
      exact ⟨_, rfl, hown, HB.out⟩

theorem info_u32 : (Try.prog.info? 31).map (fun i => (i.zero, i.size, i.bytes)) = some (some (.int .u32 0), 1, 4) := by kernel_rfl
theorem wordsV_snoc (l : List UInt32) (k : Nat) (h : k < l.length) : wordsV (l.take (k + 1)) = wordsV (l.take k) ++ [.int .u32 (V (l.getD k 0))] := by
  rw [List.take_succ_eq_append_getElem h, List.getD_eq_getElem?_getD, List.getElem?_eq_getElem h]
  simp only [wordsV, List.map_append, List.map_cons, List.map_nil]; rfl

/-- the two rows of the table -/
def TableOut (w : World) (e : Ending) (w' : World) : Prop := ∃ v u, e = .returned (.tuple #[v, u]) ∧ w'.ownsRow w.heap.size 31 1 v 8 (wordsV h0L) ∧ w'.ownsRow w.heap.size 31 1 u 64 (wordsV KK) ∧ Below w.heap.size w w'

set_option maxRecDepth 100000 in
set_option maxHeartbeats 1000000 in
theorem Table_any (w : World) : Calls Try.prog 31 #[] w (TableOut w) := by
  obtain ⟨i0, hi, hz0, hz1, hz2⟩ := info_parts info_u32
  go_enter Try.func31, Try.ntmps31
  go_wp2_with (fail)
  refine (primes_any _).mono ?_
  rintro e w1 ⟨vp, rfl, hp, hbp⟩
  obtain ⟨Ap, cp, rfl, hcp, hmp, hrp⟩ := IsSlice.of_own hp
  have HP := Lib.hid hrp
  have HBP := Lib.hid hbp
  clear hp hbp hrp
  go_wp2_with (fail)
  go_loopw [2, 3, 5] (fun t2 t3 t5 W => ∃ n : Nat, n ≤ 64 ∧ t5 = .int .i64 n ∧ W.ownsRow w1.heap.size 31 1 t2 (min n 8) (wordsV (h0L.take n)) ∧ W.ownsRow w1.heap.size 31 1 t3 n (wordsV (KK.take n)) ∧ Apart t2 t3 ∧ Hid (Below w1.heap.size w1 W)) (fun _ _ t5 _ => 64 - (intOf t5).toNat)
  case atStart => exact ⟨0, by omega, rfl, World.ownsRow_nil _ _ _ _, World.ownsRow_nil _ _ _ _, Apart.nil _ _ _, Lib.hid (Below.refl _ _)⟩
  case round =>
    obtain ⟨n, hn, rfl, hown2, hown3, hap, HB⟩ := hrel
    by_cases hlt : n < 64
    · obtain ⟨ad, rfl, ca⟩ := (HP.out.below HB.out).u64_at (l := PRIMES) (k := n) (by simpa [PRIMES] using hlt)
      have hpl := primes_lt n hlt
      obtain ⟨hr3, hr3b, hr3c⟩ := roots3 n hlt
      have hF3 := fun W => fraction_any (PRIMES.getD n 0) 3 (R3.getD n 0) W hpl (by omega) hr3 hr3b
      rw [hr3c] at hF3
      have HF3 := Lib.hid hF3
      clear hF3 hr3 hr3b hr3c
      by_cases h8 : n < 8
      · obtain ⟨hr2, hr2b, hr2c⟩ := roots2 n h8
        have hF2 := fun W => fraction_any (PRIMES.getD n 0) 2 (R2.getD n 0) W hpl (by omega) hr2 hr2b
        rw [hr2c] at hF2
        have HF2 := Lib.hid hF2
        have cP := fun W (hW : Below wr.heap.size wr W) => (hW.cell (World.block_lt_of_cell? _ _ ca)).trans ca
        have HCP := Lib.hid cP
        clear hF2 hr2 hr2b hr2c cP
        generalize hpn : PRIMES.getD n 0 = p at *
        have HPN := Lib.hid hpn
        clear hpn
        go_wp2_with (fail)
        refine (HF2.out _).mono ?_
        rintro e w2 ⟨rfl, hb2⟩
        have HB2 := Lib.hid hb2
        have hs2 := hb2.size
        have hsw := HB.out.size
        have hown2' := own_below hown2 hb2
        have hown3' := own_below hown3 hb2
        clear hb2 hown2 hown3 ca
        go_wp2_with (at_builtin; refine wpList_append_two rfl _ _ 84 rfl w1.heap.size 31 i0 (.int .u32 0) 1 4 Try.underlying84 hi hz0 hz1 hz2 rfl (by decide) _ _ _ rfl (hown2'.alloc _) ⟨w2.heap.size, 0, none⟩ 1 1 [.int .u32 ((h0L.getD n 0).toNat : Int)] rfl rfl (laid_one _ _ _) (one_oneCell rfl) ?d3 ?d4 ?d5 ?_)
        case d3 => unfold maxLen; omega
        case d4 => omega
        case d5 => simp; omega
        intro v2 w3 hv2 hg3 hl3
        have hu3 := hap.kept (hown3'.alloc (.cells #[.int .u32 ((h0L.getD n 0).toNat : Int)] 31)) hg3
        have hap3 := hap.lies hl3 (hown3'.alloc (.cells #[.int .u32 ((h0L.getD n 0).toNat : Int)] 31))
        have hb3 : Below w1.heap.size w1 w3 := ((HB.out.trans (HB2.out.mono hsw)).alloc (by omega) (.cells #[.int .u32 ((h0L.getD n 0).toNat : Int)] 31)).grown hg3 (by simp; omega) (fun k hk => (hown2'.lt k hk).1)
        obtain ⟨ad', e', ca'⟩ := (HP.out.below hb3).u64_at (l := PRIMES) (k := n) (by simpa [PRIMES] using hlt)
        injection e' with e'
        subst e'
        rw [HPN.out] at ca'
        clear hg3 hl3
        go_wp2_with (fail)
        refine (HF3.out _).mono ?_
        rintro e w4 ⟨rfl, hb4⟩
        have HB4 := Lib.hid hb4
        have hs4 := hb4.size
        have hown3a := own_below hu3 hb4
        have hown2a := own_below hv2 hb4
        have hsw4 := hb3.size
        clear hb4
        go_wp2_with (at_builtin; refine wpList_append_two rfl _ _ 84 rfl w1.heap.size 31 i0 (.int .u32 0) 1 4 Try.underlying84 hi hz0 hz1 hz2 rfl (by decide) _ _ _ rfl (hown3a.alloc _) ⟨w4.heap.size, 0, none⟩ 1 1 [.int .u32 ((KK.getD n 0).toNat : Int)] rfl rfl (laid_one _ _ _) (one_oneCell rfl) ?e3a ?e4a ?e5a ?_)
        case e3a => unfold maxLen; omega
        case e4a => omega
        case e5a => simp; omega
        intro v5 w5 hv5 hg5 hl5
        have hu5 := (hap3).symm.kept (hown2a.alloc (.cells #[.int .u32 ((KK.getD n 0).toNat : Int)] 31)) hg5
        have hap5 := (hap3).symm.lies hl5 (hown2a.alloc (.cells #[.int .u32 ((KK.getD n 0).toNat : Int)] 31))
        have hb5 : Below w1.heap.size w1 w5 := ((hb3.trans (HB4.out.mono hsw4)).alloc (by omega) (.cells #[.int .u32 ((KK.getD n 0).toNat : Int)] 31)).grown hg5 (by simp; omega) (fun k hk => (hown3a.lt k hk).1)
        have HB5 := Lib.hid hb5
        clear hg5 hl5 hb5
        go_wp2_with (fail)
        go_roundw
        case rel => exact ⟨n + 1, by omega, by go_num, by rw [wordsV_snoc h0L n (by simpa [h0L] using h8), show min (n + 1) 8 = min n 8 + 1 by omega]; exact hu5, by rw [wordsV_snoc KK n (by simpa [KK] using hlt)]; exact hv5, hap5.symm, HB5⟩
        case measure => simp [intOf]; omega
      · generalize PRIMES.getD n 0 = p at *
        go_wp2_with (fail)
        refine (HF3.out _).mono ?_
        rintro e w4 ⟨rfl, hb4⟩
        have HB4 := Lib.hid hb4
        have hs4 := hb4.size
        have hown3a := own_below hown3 hb4
        have hown2a := own_below hown2 hb4
        have hsw4 := HB.out.size
        clear hb4
        go_wp2_with (at_builtin; refine wpList_append_two rfl _ _ 84 rfl w1.heap.size 31 i0 (.int .u32 0) 1 4 Try.underlying84 hi hz0 hz1 hz2 rfl (by decide) _ _ _ rfl (hown3a.alloc _) ⟨w4.heap.size, 0, none⟩ 1 1 [.int .u32 ((KK.getD n 0).toNat : Int)] rfl rfl (laid_one _ _ _) (one_oneCell rfl) ?e3b ?e4b ?e5b ?_)
        case e3b => unfold maxLen; omega
        case e4b => omega
        case e5b => simp; omega
        intro v5 w5 hv5 hg5 hl5
        have hu5 := (hap).symm.kept (hown2a.alloc (.cells #[.int .u32 ((KK.getD n 0).toNat : Int)] 31)) hg5
        have hap5 := (hap).symm.lies hl5 (hown2a.alloc (.cells #[.int .u32 ((KK.getD n 0).toNat : Int)] 31))
        have hb5 : Below w1.heap.size w1 w5 := ((HB.out.trans (HB4.out.mono hsw4)).alloc (by omega) (.cells #[.int .u32 ((KK.getD n 0).toNat : Int)] 31)).grown hg5 (by simp; omega) (fun k hk => (hown3a.lt k hk).1)
        have HB5 := Lib.hid hb5
        clear hg5 hl5 hb5
        go_wp2_with (fail)
        go_roundw
        case rel => exact ⟨n + 1, by omega, by go_num, by rw [List.take_of_length_le (by simp [h0L]; omega), show min (n + 1) 8 = min n 8 by omega]; rw [List.take_of_length_le (by simp [h0L]; omega)] at hu5; exact hu5, by rw [wordsV_snoc KK n (by simpa [KK] using hlt)]; exact hv5, hap5.symm, HB5⟩
        case measure => simp [intOf]; omega
    · obtain rfl : n = 64 := by omega
      have e8 : min 64 8 = 8 := rfl
      rw [e8] at hown2
      go_wp2_with (fail)
      go_ret2
      exact ⟨_, _, rfl, own_base hown2 HBP.out.size, own_base hown3 HBP.out.size, HBP.out.trans (HB.out.mono HBP.out.size)⟩
end Go.Proofs.Ytgohhhfnffhgmaa
