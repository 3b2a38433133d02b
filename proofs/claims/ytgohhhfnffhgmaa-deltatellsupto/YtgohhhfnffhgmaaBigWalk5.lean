/- hawserref04.block: 64 rounds. -/
import Derived.Test.YtgohhhfnffhgmaaBigWalk4
import Derived.RegionTactic
import Derived.BigRegion
import Derived.BigQuiet
import Derived.StillTailTactics
import Derived.Deep.QuietTactic
namespace Go.Proofs.Ytgohhhfnffhgmaa
open Go.RowKit Plain

def list8 (v : S8) : List UInt32 := [v.a, v.b, v.c, v.d, v.e, v.f, v.g, v.h]
theorem V_wadd (x y : UInt32) : IntKind.u32.wrap (V x + V y) = V (x + y) := by rw [IntKind.wrap_u32, V_add]
theorem V_wrap (x : UInt32) : IntKind.u32.wrap (V x) = V x := by rw [IntKind.wrap_u32]; have := V_lt x; omega
attribute [local go_sem] V_xor V_and V_or V_not V_add V_wadd V_wrap V_shr3 V_shr10

theorem Reads.word_at {w : World} {A : Option Addr} {l : List UInt32} {n k : Nat} (h : Reads w 1 A n (wordsV l)) (hk : k < n) : ∃ ad, A = some ad ∧ w.cell? (ad.add k) = some (.int .u32 (V (l.getD k 0))) := by
  obtain ⟨ad, u, hA, hu, hc⟩ := h.at_ hk
  have hkl : k < l.length := by have := (List.getElem?_eq_some_iff.1 hu).1; simpa [wordsV] using this
  have : (wordsV l)[k]? = some (.int .u32 (V (l.getD k 0))) := by simp [wordsV, hkl, List.getD_eq_getElem?_getD]
  rw [this] at hu
  injection hu with hu
  exact ⟨ad, hA, by rw [hc, hu]⟩

/-- a new row of cells -/
def RowOut' (w : World) (e0 : TypeId) (n : Nat) (xs : List Value) (e : Ending) (w' : World) : Prop := ∃ v, e = .returned v ∧ w'.ownsRow w.heap.size e0 1 v n xs ∧ Below w.heap.size w w'

theorem info_u32' : (Try.prog.info? 31).map (fun i => (i.zero, i.size, i.bytes)) = some (some (.int .u32 0), 1, 4) := by kernel_rfl

theorem own_empty (w : World) (e : TypeId) : (w.alloc (.cells #[] e)).ownsRow w.heap.size e 1 (.slice (some ⟨w.heap.size, 0, none⟩) 0 0) 0 [] :=
  ⟨rfl, .inr ⟨w.heap.size, 0, #[], rfl, Nat.le_refl _, heap_alloc_new w _, Nat.le_refl _, by unfold maxLen; omega, rfl, rfl⟩⟩
theorem own_laid (w : World) (xs : List Value) (e : TypeId) (n : Nat) (hn : xs.length = n) (hm : n ≤ maxLen) (base : Nat) (hb : base ≤ w.heap.size) : (w.alloc (.cells xs.toArray e)).ownsRow base e 1 (.slice (some ⟨w.heap.size, 0, none⟩) n n) n xs :=
  ⟨by omega, .inr ⟨w.heap.size, n, _, rfl, hb, heap_alloc_new w _, Nat.le_refl _, hm, by simp [hn], by rw [Nat.mul_one]; exact List.take_of_length_le (by simp; omega)⟩⟩
theorem own_some {w : World} {base n : Nat} {e : TypeId} {v : Value} {xs : List Value} (h : w.ownsRow base e 1 v n xs) (hn : 0 < n) : ∃ g c, v = .slice (some ⟨g, 0, none⟩) n c ∧ base ≤ g := by
  rcases h.2 with ⟨_, h0⟩ | ⟨g, c, cur, hv, hb, _⟩
  · omega
  · exact ⟨g, c, hv, hb⟩
theorem own_word {w : World} {base n g c : Nat} {e : TypeId} {l : List UInt32} (h : w.ownsRow base e 1 (.slice (some ⟨g, 0, none⟩) n c) n (wordsV l)) (j : Nat) (hj : j < n) : w.cell? ⟨g, j, none⟩ = some (.int .u32 (V (l.getD j 0))) := by
  have hl := h.1
  rw [h.cellAt j (by omega)]
  have hjl : j < l.length := by simp [wordsV] at hl; omega
  simp [wordsV, hjl, List.getD_eq_getElem?_getD]
theorem wordsV_set (l : List UInt32) (k : Nat) (x : UInt32) : (wordsV l).set k (.int .u32 (V x)) = wordsV (l.set k x) := by simp [wordsV, List.map_set]
theorem own_wset {w wr : World} {g n cap : Nat} {e : TypeId} {l : List UInt32} (h : wr.ownsRow w.heap.size e 1 (.slice (some ⟨g, 0, none⟩) n cap) n (wordsV l)) (hb : Below w.heap.size w wr) (j : Nat) (x : UInt32) (d : Nat) :
    ((wr.drewN d).setCell ⟨g, j, none⟩ (.int .u32 (V x))).ownsRow w.heap.size e 1 (.slice (some ⟨g, 0, none⟩) n cap) n (wordsV (l.set j x)) ∧ Below w.heap.size w ((wr.drewN d).setCell ⟨g, j, none⟩ (.int .u32 (V x))) := by
  have h' : (wr.drewN d).ownsRow w.heap.size e 1 (.slice (some ⟨g, 0, none⟩) n cap) n (wordsV l) := h
  have h2 := h'.stored j (.int .u32 (V x))
  rw [wordsV_set] at h2
  exact ⟨h2.1, (below_drewN hb d).setCell (h.lt g rfl).1 _⟩
theorem runW_succ (W : List UInt32) (h : S8) (n : Nat) : runW W h (n + 1) = Plain.step (runW W h n) (KK.getD n 0) (W.getD n 0) := rfl
theorem quiet_more {P : Program} {f : FuncId} {args : Array Value} {w : World} {v : Value} {a b : Nat} (h : Calls P f args (w.drewN (a + b)) fun e w' => e = .returned v ∧ w' = w.drewN (a + b)) :
    Calls P f args (w.drewN (a + b)) fun e w'' => e = .returned v ∧ ∃ n, w'' = w.drewN (a + n) := h.mono fun _ _ ⟨he, hw⟩ => ⟨he, b, hw⟩
theorem turnR {x y : UInt32} {k : Int} {w : World} (h : Calls Try.prog 45 #[.int .u32 (V x), .int .u32 k] w fun e w' => e = .returned (.int .u32 (V y)) ∧ w' = w) : Calls Try.prog 45 #[.int .u32 (V x), .int .u32 k] w (Ret w (.int .u32 (V y))) :=
  h.mono fun _ _ ⟨he, hw⟩ => ⟨he, by rw [hw]; exact Below.refl _ _⟩

set_option maxRecDepth 100000 in
set_option maxHeartbeats 4000000 in
theorem block_any (H B K : Option Addr) (ch cw ck : Nat) (h : S8) (b : List UInt8) (w : World) (hh : Reads w 1 H 8 (wordsV (list8 h))) (hw : Reads w 1 B 64 (wordsV (sched b 64))) (hk : Reads w 1 K 64 (wordsV KK)) :
    Calls Try.prog 46 #[.slice H 8 ch, .slice B 64 cw, .slice K 64 ck] w (RowOut' w 31 8 (wordsV (list8 (round h b)))) := by
  obtain ⟨i0, hi, hz0, hz1, hz2⟩ := info_parts info_u32'
  obtain ⟨ha, rfl, _⟩ := hh.word_at (k := 0) (by omega)
  have hH := hh.2 (by omega)
  obtain ⟨ha', e', hcH⟩ := hH
  injection e' with e'
  subst e'
  have HH := Lib.hid hh
  have HCH := Lib.hid hcH
  clear hcH hh
  go_enter Try.func46, Try.ntmps46
  go_wp2_with (at_builtin; refine wpList_append_own _ rfl _ _ 84 rfl w.heap.size 31 i0 (.int .u32 0) 1 4 Try.underlying84 hi hz0 hz1 hz2 rfl (by decide) _ _ _ rfl (own_empty w _) ha 8 ch (wordsV (list8 h)) rfl rfl ?c1 ?c2 ?c3 ?c4 ?c5 ?_)
  case c1 => exact fun j u hj => (((Below.refl w.heap.size w).alloc (Nat.le_refl _) _).cell (World.block_lt_of_cell? _ _ (HCH.out j u hj))).trans (HCH.out j u hj)
  case c2 => intro u hu; simp only [wordsV, List.mem_map] at hu; obtain ⟨_, _, rfl⟩ := hu; rfl
  case c3 => unfold maxLen; omega
  case c4 => omega
  case c5 => simp
  intro v1 w1 hown hgrow _
  have hb1 : Below w.heap.size w w1 := ((Below.refl w.heap.size w).alloc (Nat.le_refl _) _).grown hgrow (by simp) (fun k hk => ((own_empty w 31).lt k hk).1)
  have HB1 := Lib.hid hb1
  clear hgrow hb1
  go_wp2_with (fail)
  go_loopw [7, 8] (fun t7 t8 W => ∃ n : Nat, n ≤ 64 ∧ t8 = .int .i64 n ∧ W.ownsRow w.heap.size 31 1 t7 8 (wordsV (list8 (runW (sched b 64) h n))) ∧ Hid (Below w.heap.size w W)) (fun _ t8 _ => 64 - (intOf t8).toNat)
  case atStart => exact ⟨0, by omega, rfl, hown, HB1⟩
  case round =>
    clear HB1 hown
    obtain ⟨n, hn, rfl, hown, HB⟩ := hrel
    by_cases hlt : n < 64
    · obtain ⟨g, c, rfl, hg⟩ := own_some hown (by omega)
      obtain ⟨kd, rfl, ck0⟩ := (hk.below HB.out).word_at hlt
      obtain ⟨bd, rfl, cb0⟩ := (hw.below HB.out).word_at hlt
      have hst := runW_succ (sched b 64) h n
      generalize runW (sched b 64) h n = v at *
      generalize KK.getD n 0 = kk at *
      generalize (sched b 64).getD n 0 = ww at *
      have q0 : wr.cell? ⟨g, 0, none⟩ = some (.int .u32 (V v.a)) := own_word hown 0 (by omega)
      have q1 : wr.cell? ⟨g, 1, none⟩ = some (.int .u32 (V v.b)) := own_word hown 1 (by omega)
      have q2 : wr.cell? ⟨g, 2, none⟩ = some (.int .u32 (V v.c)) := own_word hown 2 (by omega)
      have q3 : wr.cell? ⟨g, 3, none⟩ = some (.int .u32 (V v.d)) := own_word hown 3 (by omega)
      have q4 : wr.cell? ⟨g, 4, none⟩ = some (.int .u32 (V v.e)) := own_word hown 4 (by omega)
      have q5 : wr.cell? ⟨g, 5, none⟩ = some (.int .u32 (V v.f)) := own_word hown 5 (by omega)
      have q6 : wr.cell? ⟨g, 6, none⟩ = some (.int .u32 (V v.g)) := own_word hown 6 (by omega)
      have q7 : wr.cell? ⟨g, 7, none⟩ = some (.int .u32 (V v.h)) := own_word hown 7 (by omega)
      have HST := Lib.hid hst
      have pn : (0 : Int) ≤ n := by omega
      have qn : (n : Int) < 64 := by omega
      clear hst hown
      go_wp2_with (fail)
      go_quiet (fail)
      go_wp2_with (fail)
      refine wp_region_quiet_lit (by kernel_rfl) (by kernel_rfl) ?_
      repeat (go_big_quiet_step (fail))
      go_big_quiet_step ((go_at_call 45; exact quiet_more (turn_6 _ _)))
      repeat (go_big_quiet_step (fail))
      go_big_quiet_step ((go_at_call 45; exact quiet_more (turn_11 _ _)))
      repeat (go_big_quiet_step (fail))
      go_big_quiet_step ((go_at_call 45; exact quiet_more (turn_25 _ _)))
      repeat (go_big_quiet_step (fail))
      refine wpQuiet_nil ?_
      intro _ hw'
      obtain ⟨nq2, hw''⟩ := hw'
      subst hw''
      simp only [not_form, V_not, V_and, V_xor, V_add3, V_add]
      generalize htt : v.h + (rotr v.e 6 ^^^ rotr v.e 11 ^^^ rotr v.e 25) + (v.e &&& v.f ^^^ ~~~v.e &&& v.g) + kk + ww = t
      have HTT := Lib.hid htt
      clear htt
      go_wp2_with (fail)
      refine wp_region_quiet_lit (by kernel_rfl) (by kernel_rfl) ?_
      repeat (go_big_quiet_step (fail))
      go_big_quiet_step ((go_at_call 45; exact quiet_more (turn_2 _ _)))
      repeat (go_big_quiet_step (fail))
      go_big_quiet_step ((go_at_call 45; exact quiet_more (turn_13 _ _)))
      repeat (go_big_quiet_step (fail))
      go_big_quiet_step ((go_at_call 45; exact quiet_more (turn_22 _ _)))
      repeat (go_big_quiet_step (fail))
      refine wpQuiet_nil ?_
      intro _ hw'
      obtain ⟨nq3, hw''⟩ := hw'
      subst hw''
      generalize huu : (rotr v.a 2 ^^^ rotr v.a 13 ^^^ rotr v.a 22) + (v.a &&& v.b ^^^ v.a &&& v.c ^^^ v.b &&& v.c) = u
      have HUU := Lib.hid huu
      clear huu
      go_wp2_with (fail)
      obtain ⟨W3, hW3⟩ : ∃ W3, W3 = ((wr.drewN nq).drewN nq2).drewN nq3 := ⟨_, rfl⟩
      rw [← hW3]
      have r0 : W3.cell? ⟨g, 0, none⟩ = some (.int .u32 (V v.a)) := by rw [hW3]; exact q0
      have r1 : W3.cell? ⟨g, 1, none⟩ = some (.int .u32 (V v.b)) := by rw [hW3]; exact q1
      have r2 : W3.cell? ⟨g, 2, none⟩ = some (.int .u32 (V v.c)) := by rw [hW3]; exact q2
      have r3 : W3.cell? ⟨g, 3, none⟩ = some (.int .u32 (V v.d)) := by rw [hW3]; exact q3
      have r4 : W3.cell? ⟨g, 4, none⟩ = some (.int .u32 (V v.e)) := by rw [hW3]; exact q4
      have r5 : W3.cell? ⟨g, 5, none⟩ = some (.int .u32 (V v.f)) := by rw [hW3]; exact q5
      have r6 : W3.cell? ⟨g, 6, none⟩ = some (.int .u32 (V v.g)) := by rw [hW3]; exact q6
      have r7 : W3.cell? ⟨g, 7, none⟩ = some (.int .u32 (V v.h)) := by rw [hW3]; exact q7
      have HB3 : Hid (Below w.heap.size w W3) := Lib.hid (by rw [hW3]; exact below_drewN (below_drewN (below_drewN HB.out _) _) _)
      clear hW3 q0 q1 q2 q3 q4 q5 q6 q7 ck0 cb0
      have s0 : ∀ x2 x3 x4 x5, ({ heap := W3.heap, tape := x2, drawn := x3, os := x4, output := x5 } : World).cell? ⟨g, 0, none⟩ = some (.int .u32 (V v.a)) := fun _ _ _ _ => r0
      have s1 : ∀ x2 x3 x4 x5, ({ heap := W3.heap, tape := x2, drawn := x3, os := x4, output := x5 } : World).cell? ⟨g, 1, none⟩ = some (.int .u32 (V v.b)) := fun _ _ _ _ => r1
      have s2 : ∀ x2 x3 x4 x5, ({ heap := W3.heap, tape := x2, drawn := x3, os := x4, output := x5 } : World).cell? ⟨g, 2, none⟩ = some (.int .u32 (V v.c)) := fun _ _ _ _ => r2
      have s3 : ∀ x2 x3 x4 x5, ({ heap := W3.heap, tape := x2, drawn := x3, os := x4, output := x5 } : World).cell? ⟨g, 3, none⟩ = some (.int .u32 (V v.d)) := fun _ _ _ _ => r3
      have s4 : ∀ x2 x3 x4 x5, ({ heap := W3.heap, tape := x2, drawn := x3, os := x4, output := x5 } : World).cell? ⟨g, 4, none⟩ = some (.int .u32 (V v.e)) := fun _ _ _ _ => r4
      have s5 : ∀ x2 x3 x4 x5, ({ heap := W3.heap, tape := x2, drawn := x3, os := x4, output := x5 } : World).cell? ⟨g, 5, none⟩ = some (.int .u32 (V v.f)) := fun _ _ _ _ => r5
      have s6 : ∀ x2 x3 x4 x5, ({ heap := W3.heap, tape := x2, drawn := x3, os := x4, output := x5 } : World).cell? ⟨g, 6, none⟩ = some (.int .u32 (V v.g)) := fun _ _ _ _ => r6
      have s7 : ∀ x2 x3 x4 x5, ({ heap := W3.heap, tape := x2, drawn := x3, os := x4, output := x5 } : World).cell? ⟨g, 7, none⟩ = some (.int .u32 (V v.h)) := fun _ _ _ _ => r7
      go_still_tail 26, (by kernel_rfl)
      clear s0 s1 s2 s3 s4 s5 s6 s7
      clear r0 r1 r2 r3 r4 r5 r6 r7
      go_wp2_with (fail)
      go_roundw
      case rel =>
        refine ⟨n + 1, by omega, by go_num, ?_, Lib.hid ((HB3.out.alloc HB3.out.size _).drew)⟩
        have hE : wordsV (list8 (runW (sched b 64) h (n + 1))) = [.int .u32 (V (t + u)), .int .u32 (V v.a), .int .u32 (V v.b), .int .u32 (V v.c), .int .u32 (V (v.d + t)), .int .u32 (V v.e), .int .u32 (V v.f), .int .u32 (V v.g)] := by
          rw [HST.out, ← HTT.out, ← HUU.out]
          simp only [wordsV, list8, Plain.step, Sig0, Sig1, Plain.ch, maj, List.map_cons, List.map_nil]
        rw [hE]
        exact own_laid W3 _ _ 8 rfl (by unfold maxLen; omega) _ HB3.out.size
      case measure => simp [intOf]; omega
    · have hrd : round h b = add8 (runW (sched b 64) h n) h := by rw [show n = 64 by omega]; rfl
      have HRD := Lib.hid hrd
      clear hrd
      generalize runW (sched b 64) h n = v at *
      obtain ⟨g, c, rfl, hg⟩ := own_some hown (by omega)
      go_wp2_with (fail)
      go_loopw [13] (fun t13 W => ∃ (m : Nat) (l : List UInt32), m ≤ 8 ∧ t13 = .int .i64 m ∧ W.ownsRow w.heap.size 31 1 (.slice (some ⟨g, 0, none⟩) 8 c) 8 (wordsV l) ∧ Hid (∀ j, j < 8 → l.getD j 0 = if j < m then (list8 v).getD j 0 + (list8 h).getD j 0 else (list8 v).getD j 0) ∧ Hid (Below w.heap.size w W)) (fun t13 _ => 8 - (intOf t13).toNat)
      case atStart => exact ⟨0, list8 v, by omega, rfl, hown, Lib.hid (fun j hj => by rw [if_neg (by omega)]), HB⟩
      case round =>
        clear hown HB
        obtain ⟨m, l, hm, rfl, hown, HL, HB⟩ := hrel
        by_cases hlt : m < 8
        · obtain ⟨ha', e', cH⟩ := (HH.out.below HB.out).word_at hlt
          injection e' with e'
          subst e'
          have cV := own_word hown m hlt
          have fV := hown.frozenAt m
          have hnew := HL.out m hlt
          rw [if_neg (by omega)] at hnew
          rw [hnew] at cV
          have hset := fun d => own_wset hown HB.out m ((list8 v).getD m 0 + (list8 h).getD m 0) d
          generalize hx : (list8 v).getD m 0 = x at *
          generalize hy : (list8 h).getD m 0 = y at *
          have HSET := Lib.hid hset
          have HX := Lib.hid hx
          have HY := Lib.hid hy
          have pn : (0 : Int) ≤ m := by omega
          have qn : (m : Int) < 8 := by omega
          have s1 : ∀ x2 x3 x4 x5, ({ heap := wr.heap, tape := x2, drawn := x3, os := x4, output := x5 } : World).cell? ⟨g, m, none⟩ = some (.int .u32 (V x)) := fun _ _ _ _ => cV
          have s2 : ∀ x2 x3 x4 x5, ({ heap := wr.heap, tape := x2, drawn := x3, os := x4, output := x5 } : World).cell? (ha.add m) = some (.int .u32 (V y)) := fun _ _ _ _ => cH
          clear hset hx hy hnew
          go_wp2_with (fail)
          go_still_tail 12, (by kernel_rfl)
          clear s1 s2
          go_wp2_with (fail)
          go_roundw
          case rel =>
            have h0 := HSET.out 1
            refine ⟨m + 1, l.set m (x + y), by omega, by go_num, ?_, Lib.hid ?_, ?_⟩
            · exact h0.1
            · intro j hj
              have hll : l.length = 8 := by have := hown.1; simpa [wordsV] using this
              have hj1 := HL.out j hj
              by_cases e : j = m
              · subst e
                rw [if_pos (by omega), HX.out, HY.out]
                simp [List.getD_eq_getElem?_getD, hll, hj]
              · rw [List.getD_eq_getElem?_getD, List.getElem?_set_ne (Ne.symm e), ← List.getD_eq_getElem?_getD, hj1]
                by_cases e2 : j < m
                · rw [if_pos e2, if_pos (by omega)]
                · rw [if_neg e2, if_neg (by omega)]
            · exact Lib.hid h0.2
          case measure => simp [intOf]; omega
        · obtain rfl : m = 8 := by omega
          have hE : wordsV l = wordsV (list8 (round h b)) := by
            have hll : l.length = 8 := by have := hown.1; simpa [wordsV] using this
            have hl2 : (list8 (add8 v h)).length = 8 := rfl
            rw [HRD.out]
            congr 1
            apply List.ext_getElem (by rw [hll, hl2])
            intro j h1 h2
            have hj := HL.out j (by omega)
            rw [if_pos (by omega)] at hj
            rw [List.getD_eq_getElem?_getD, List.getElem?_eq_getElem h1] at hj
            have hj2 : l[j] = (list8 v).getD j 0 + (list8 h).getD j 0 := hj
            rw [hj2]
            match j, h2 with
            | 0, _ => rfl
            | 1, _ => rfl
            | 2, _ => rfl
            | 3, _ => rfl
            | 4, _ => rfl
            | 5, _ => rfl
            | 6, _ => rfl
            | 7, _ => rfl
          go_wp2_with (fail)
          go_ret
          exact ⟨_, rfl, by rw [← hE]; exact hown, HB.out⟩
end Go.Proofs.Ytgohhhfnffhgmaa
