/- hawserref04.sum, Sum: the strong fingerprint, by the document. -/
import Derived.Test.YtgohhhfnffhgmaaBigWalk5
import Derived.Test.YtgohhhfnffhgmaaBigWalk3
namespace Go.Proofs.Ytgohhhfnffhgmaa
open Go.RowKit Plain

attribute [local go_sem] V_xor V_and V_or V_not V_add V_wadd V_wrap V_shr3 V_shr10

theorem runB_succ (k : Nat) (h : S8) (l : List UInt8) : runB (k + 1) h l = round (runB k h l) ((l.drop (64 * k)).take 64) := by
  rw [runB_add]; rfl
/-- the first j bytes of a word, as a number -/
def accN (b : List UInt8) (i : Nat) : Nat → Nat
  | 0 => 0
  | j + 1 => accN b i j * 256 + (b.getD (4 * i + j) 0).toNat
theorem accN_lt (b : List UInt8) (i j : Nat) : accN b i j < 256 ^ j := by
  induction j with
  | zero => simp [accN]
  | succ j ih =>
    have := (b.getD (4 * i + j) 0).toNat_lt
    rw [Nat.pow_succ]
    simp only [accN]
    omega
theorem accN_4 (b : List UInt8) (i : Nat) : ((accN b i 4 : Nat) : Int) = V (wordAt b i) := by
  have h := accN_lt b i 4
  unfold wordAt word
  rw [V_of]
  simp only [accN, Nat.add_zero] at h ⊢
  omega
theorem madeU32 (n : Nat) : (madeCells #[Value.int .u32 0] n).toList = wordsV (List.replicate n 0) := by
  apply List.ext_getElem?
  intro k
  simp only [madeCells, wordsV, List.getElem?_map, List.getElem?_replicate]
  by_cases h : k < n
  · simp [h, Nat.mod_one, V]
  · simp [h]
theorem cells_u32 (n : Int) : (Value.int .u32 n).cells = #[.int .u32 n] := rfl
theorem flat_bytes (v : S8) : (list8 v).flatMap bytes4 = out8 v := by simp [list8, out8]
theorem bytes4_take (x : UInt32) (j : Nat) (hj : j < 4) : (bytes4 x).take (j + 1) = (bytes4 x).take j ++ [UInt8.ofNat (x.toNat / 2 ^ (24 - 8 * j))] := by
  match j, hj with
  | 0, _ => rfl
  | 1, _ => rfl
  | 2, _ => rfl
  | 3, _ => simp [bytes4]

/-- a row whose first i words are known -/
def Firsts (b : List UInt8) (l : List UInt32) (i : Nat) : Prop := l.length = 64 ∧ (∀ j, j < i → l.getD j 0 = WW b j) ∧ ∀ j, i ≤ j → l.getD j 0 = 0
theorem Firsts.next {b : List UInt8} {l : List UInt32} {i : Nat} (h : Firsts b l i) (hi : i < 64) : Firsts b (l.set i (WW b i)) (i + 1) := by
  refine ⟨by rw [List.length_set]; exact h.1, fun j hj => ?_, fun j hj => ?_⟩
  · by_cases e : j = i
    · subst e; simp [List.getD_eq_getElem?_getD, h.1, hi]
    · rw [List.getD_eq_getElem?_getD, List.getElem?_set_ne (Ne.symm e), ← List.getD_eq_getElem?_getD]; exact h.2.1 j (by omega)
  · rw [List.getD_eq_getElem?_getD, List.getElem?_set_ne (by omega), ← List.getD_eq_getElem?_getD]; exact h.2.2 j (by omega)
theorem Firsts.done {b : List UInt8} {l : List UInt32} (h : Firsts b l 64) : l = sched b 64 := by
  apply List.ext_getElem (by rw [h.1, sched_length])
  intro j h1 h2
  have := h.2.1 j (by rw [h.1] at h1; exact h1)
  rw [List.getD_eq_getElem?_getD, List.getElem?_eq_getElem h1] at this
  unfold WW at this
  rw [List.getD_eq_getElem?_getD, List.getElem?_eq_getElem h2] at this
  exact this

set_option maxRecDepth 100000 in
set_option maxHeartbeats 1000000 in
theorem refsum_any (F K : Option Addr) (cf ck : Nat) (s : List UInt8) (w : World) (hs : s.length ≤ 70368744177664) (hf : Reads w 1 F 8 (wordsV h0L)) (hk : Reads w 1 K 64 (wordsV KK)) :
    Calls Try.prog 32 #[.string ⟨s.toArray⟩, .slice F 8 cf, .slice K 64 ck] w (Ret w (.string ⟨(sha s).toArray⟩)) := by
  obtain ⟨i0, hi, hz0, hz1, hz2⟩ := info_parts info_u32'
  obtain ⟨i1, hi1, hy0, hy1, hy2⟩ := info_parts info_byte8
  obtain ⟨fa, e', hcF⟩ := hf.2 (by omega)
  subst e'
  have HCF := Lib.hid hcF
  have hpl : ∃ m, (s ++ padding s.length).length = 64 * m ∧ m = (s.length + 72) / 64 := by
    refine ⟨_, ?_, rfl⟩
    have hn : noughts s.length = (119 - s.length % 64) % 64 := rfl
    simp only [padding, List.length_append, List.length_cons, List.length_replicate, size8_length]
    omega
  obtain ⟨m, hm, hmm⟩ := hpl
  have hsha : sha s = out8 (runB m H0 (s ++ padding s.length)) := by rw [hmm]; rfl
  have HSHA := Lib.hid hsha
  clear hcF hsha
  go_enter Try.func32, Try.ntmps32
  go_wp2_with (at_builtin; refine wpList_append_own _ rfl _ _ 84 rfl w.heap.size 31 i0 (.int .u32 0) 1 4 Try.underlying84 hi hz0 hz1 hz2 rfl (by decide) _ _ _ rfl (own_empty w _) fa 8 cf (wordsV h0L) rfl rfl ?c1 ?c2 ?c3 ?c4 ?c5 ?_)
  case c1 => exact fun j u hj => (((Below.refl w.heap.size w).alloc (Nat.le_refl _) _).cell (World.block_lt_of_cell? _ _ (HCF.out j u hj))).trans (HCF.out j u hj)
  case c2 => intro u hu; simp only [wordsV, List.mem_map] at hu; obtain ⟨_, _, rfl⟩ := hu; rfl
  case c3 => unfold maxLen; omega
  case c4 => omega
  case c5 => simp
  intro v1 w1 hown hgrow _
  have hb1 : Below w.heap.size w w1 := ((Below.refl w.heap.size w).alloc (Nat.le_refl _) _).grown hgrow (by simp) (fun k hk => ((own_empty w 31).lt k hk).1)
  have hP := padded_any s w1 hs
  generalize s ++ padding s.length = P at *
  have HP := Lib.hid hP
  have HB1 := Lib.hid hb1
  have HM := Lib.hid hm
  have hPl : P.length ≤ 70368744178000 := by omega
  clear hgrow hb1 hP hmm
  go_wp2_with (fail)
  refine HP.out.mono ?_
  rintro e w2 ⟨rfl, hb2⟩
  have hown2 := own_below hown hb2
  have HB2 := Lib.hid (HB1.out.trans (hb2.mono HB1.out.size))
  clear hb2 hown HP HB1 hm
  go_wp2_with (fail)
  go_loopw [7, 9, 10, 11, 12, 13, 14] (fun t7 t9 _ _ _ _ _ W => ∃ k : Nat, k ≤ m ∧ t9 = .int .i64 (64 * (k : Int)) ∧ W.ownsRow w.heap.size 31 1 t7 8 (wordsV (list8 (runB k H0 P))) ∧ Hid (Below w.heap.size w W)) (fun _ t9 _ _ _ _ _ _ => 64 * m - (intOf t9).toNat)
  case atStart => exact ⟨0, by omega, rfl, hown2, HB2⟩
  case round =>
    clear hown2 HB2
    obtain ⟨k, hkm, rfl, hown, HB⟩ := hrel
    obtain ⟨wo, rfl⟩ : ∃ wo : World, wo = wr := ⟨_, rfl⟩
    by_cases hlt : k < m
    · have hml : 64 * k + 64 ≤ P.length := by have := HM.out; omega
      have hkl : 64 * k < P.length := by omega
      have hrs := runB_succ k H0 P
      have hbl : ((P.drop (64 * k)).take 64).length = 64 := by simp; omega
      have hbg : ∀ j, j < 64 → P[64 * k + j]? = some (((P.drop (64 * k)).take 64).getD j 0) := fun j hj => by
        rw [List.getD_eq_getElem?_getD, List.getElem?_take_of_lt hj, List.getElem?_drop, List.getElem?_eq_getElem (by omega)]; rfl
      generalize (P.drop (64 * k)).take 64 = b at *
      generalize runB k H0 P = hv at *
      have HRS := Lib.hid hrs
      have HBL := Lib.hid hbl
      have HBG := Lib.hid hbg
      clear hrs hbl hbg
      go_wp2_with (at_make; refine wpList_make_full _ rfl _ _ 84 rfl wo.heap.size 31 i0 (.int .u32 0) 1 Try.underlying84 hi hz0 hz1 .i64 .i64 _ _ 64 rfl rfl rfl rfl ?m3 ?m4 ?m5 ?_)
      case m3 => rw [hz2]; omega
      case m4 => unfold maxLen; omega
      case m5 => exact Nat.le_refl _
      intro w3 hrow hgr
      have hb3 : Below wo.heap.size wo w3 := (Below.refl _ _).grown hgr (Nat.le_refl _) (fun k hk => by cases hk)
      simp only [cells_u32, Nat.mul_one, madeU32] at hrow
      have HOWN3 := Lib.hid hown
      have HF : Hid (Firsts b (List.replicate 64 0) 0) := Lib.hid ⟨by simp, fun j hj => by omega, fun j _ => by simp only [List.getD_eq_getElem?_getD, List.getElem?_replicate]; split <;> rfl⟩
      have HB3 := Lib.hid hb3
      clear hgr hb3 hown
      go_wp2_with (fail)
      go_loopw [11, 12, 13, 14] (fun t11 _ _ _ W => ∃ (i : Nat) (l : List UInt32), i ≤ 64 ∧ t11 = .int .i64 i ∧ W.ownsRow wo.heap.size 31 1 (.slice (some ⟨wo.heap.size, 0, none⟩) 64 64) 64 (wordsV l) ∧ Hid (Firsts b l i) ∧ Hid (Below wo.heap.size wo W)) (fun t11 _ _ _ _ => 64 - (intOf t11).toNat)
      case atStart => exact ⟨0, _, by omega, rfl, hrow, HF, HB3⟩
      case round =>
        clear hrow HF HB3
        obtain ⟨i, l, hi64, rfl, hrow, HF, HB3⟩ := hrel
        by_cases hli : i < 64
        · have hB64 : decide ((i : Int) < 64) = true := by simp; omega
          by_cases h16 : i < 16
          · have hB16 : decide ((i : Int) < 16) = true := by simp; omega
            obtain ⟨w4, rfl⟩ : ∃ w4 : World, w4 = wr := ⟨_, rfl⟩
            have hz : l.getD i 0 = 0 := HF.out.2.2 i (Nat.le_refl _)
            have hll : l.length = 64 := HF.out.1
            have hset0 : wordsV l = (wordsV l).set i (.int .u32 (accN b i 0 : Nat)) := by
              have h1 : (wordsV l)[i]? = some (.int .u32 0) := by simp [wordsV, hll, hli, List.getD_eq_getElem?_getD] at hz ⊢; rw [hz]; rfl
              apply List.ext_getElem?
              intro j
              by_cases e : j = i
              · subst e; rw [h1, List.getElem?_set_self (by simp [wordsV]; omega)]; rfl
              · rw [List.getElem?_set_ne (Ne.symm e)]
            go_wp2_with (fail)
            go_loopw [12] (fun t12 W => ∃ j : Nat, j ≤ 4 ∧ t12 = .int .i64 j ∧ W.ownsRow wo.heap.size 31 1 (.slice (some ⟨wo.heap.size, 0, none⟩) 64 64) 64 ((wordsV l).set i (.int .u32 (accN b i j : Nat))) ∧ Hid (Below wo.heap.size wo W)) (fun t12 _ => 4 - (intOf t12).toNat)
            case atStart => exact ⟨0, by omega, rfl, by rw [← hset0]; exact hrow, HB3⟩
            case round =>
              clear hrow HB3
              obtain ⟨j, hj, rfl, hrow, HB3⟩ := hrel
              by_cases hlj : j < 4
              · have cV : wr.cell? ⟨wo.heap.size, i, none⟩ = some (.int .u32 (accN b i j : Nat)) := by
                  rw [hrow.cellAt i (by omega)]
                  rw [List.getElem?_set_self (by simp [wordsV]; omega)]
                have fV := hrow.frozenAt i
                have hac := accN_lt b i j
                have hbyte := HBG.out (4 * i + j) (by omega)
                have hstep : accN b i (j + 1) = accN b i j * 256 + (b.getD (4 * i + j) 0).toNat := rfl
                have hpx : 64 * k + 4 * i + j < P.length := by omega
                rw [show 64 * k + (4 * i + j) = 64 * k + 4 * i + j by omega, List.getElem?_eq_getElem hpx] at hbyte
                injection hbyte with hbyte
                rw [← hbyte] at hstep
                have hc := (P[64 * k + 4 * i + j]'hpx).toNat_lt
                generalize hcc : P[64 * k + 4 * i + j]'hpx = c at *
                have ha : accN b i j ≤ 16777215 := by
                  have : 256 ^ j ≤ 256 ^ 3 := Nat.pow_le_pow_right (by omega) (by omega)
                  omega
                have hsv : ∀ d, ((wr.drewN d).setCell ⟨wo.heap.size, i, none⟩ (.int .u32 (accN b i (j + 1) : Nat))).ownsRow wo.heap.size 31 1 (.slice (some ⟨wo.heap.size, 0, none⟩) 64 64) 64 ((wordsV l).set i (.int .u32 (accN b i (j + 1) : Nat))) ∧ Below wo.heap.size wo ((wr.drewN d).setCell ⟨wo.heap.size, i, none⟩ (.int .u32 (accN b i (j + 1) : Nat))) := by
                  intro d
                  have h' : (wr.drewN d).ownsRow wo.heap.size 31 1 (.slice (some ⟨wo.heap.size, 0, none⟩) 64 64) 64 ((wordsV l).set i (.int .u32 (accN b i j : Nat))) := hrow
                  have h2 := h'.stored i (.int .u32 (accN b i (j + 1) : Nat))
                  rw [List.set_set] at h2
                  exact ⟨h2.1, (below_drewN HB3.out d).setCell (Nat.le_refl _) _⟩
                rw [hstep] at hsv
                have HSV := Lib.hid hsv
                have HSTEP := Lib.hid hstep
                have s1 : ∀ x2 x3 x4 x5, ({ heap := wr.heap, tape := x2, drawn := x3, os := x4, output := x5 } : World).cell? ⟨wo.heap.size, i, none⟩ = some (.int .u32 (accN b i j : Nat)) := fun _ _ _ _ => cV
                clear hsv hstep hbyte hac
                generalize accN b i j = a at *
                have e1 : IntKind.i64.wrap (4 * (i : Int)) = 4 * (i : Int) := IntWalk.i64_in _ (by omega)
                have e2 : IntKind.i64.wrap (64 * (k : Int) + 4 * (i : Int)) = 64 * (k : Int) + 4 * (i : Int) := IntWalk.i64_in _ (by omega)
                have e3 : IntKind.i64.wrap (64 * (k : Int) + 4 * (i : Int) + j) = 64 * (k : Int) + 4 * (i : Int) + j := IntWalk.i64_in _ (by omega)
                have n3 : (64 * (k : Int) + 4 * (i : Int) + j).toNat = 64 * k + 4 * i + j := by omega
                have p3 : 0 ≤ (64 * (k : Int) + 4 * (i : Int) + j) := by omega
                have q3 : (64 * (k : Int) + 4 * (i : Int) + j) < P.length := by omega
                have p4 : (0 : Int) ≤ i := by omega
                have q4 : (i : Int) < 64 := by omega
                have e5 : IntKind.u32.wrap ((a : Int) * 256) = (a : Int) * 256 := IntWalk.u32_in _ (by omega)
                have e6 : IntKind.u32.wrap (c.toNat : Int) = (c.toNat : Int) := IntWalk.u32_in _ (by omega)
                have e7 : IntKind.u32.wrap ((a : Int) * 256 + c.toNat) = (a : Int) * 256 + c.toNat := IntWalk.u32_in _ (by omega)
                go_wp2_with (fail)
                go_still_tail 18, (by kernel_rfl)
                clear s1 e1 e2 e3 e5 e6 e7
                go_wp2_with (fail)
                go_roundw
                case rel =>
                  exact ⟨j + 1, by omega, by go_num, by rw [HSTEP.out]; have h0 := HSV.out 1; push_cast at h0 ⊢; exact h0.1, Lib.hid (by have h0 := HSV.out 1; push_cast at h0 ⊢; exact h0.2)⟩
                case measure => simp [intOf]; omega
              · have hj4 : j = 4 := by omega
                have hrow4 : wr.ownsRow wo.heap.size 31 1 (.slice (some ⟨wo.heap.size, 0, none⟩) 64 64) 64 (wordsV (l.set i (WW b i))) := by
                  rw [WW_first b h16, ← wordsV_set, ← accN_4, ← hj4]; exact hrow
                have HF2 := Lib.hid (HF.out.next hli)
                clear hrow
                go_wp2_with (fail)
                go_roundw
                case rel => exact ⟨i + 1, _, by omega, by go_num, hrow4, HF2, HB3⟩
                case measure => simp [intOf]; omega
          · have hB16 : decide ((i : Int) < 16) = false := by simp; omega
            have hll : l.length = 64 := HF.out.1
            have a15 := own_word hrow (i - 15) (by omega)
            have a2 := own_word hrow (i - 2) (by omega)
            have a16 := own_word hrow (i - 16) (by omega)
            have a7 := own_word hrow (i - 7) (by omega)
            have aw := own_word hrow i (by omega)
            rw [HF.out.2.1 (i - 15) (by omega)] at a15
            rw [HF.out.2.1 (i - 2) (by omega)] at a2
            rw [HF.out.2.1 (i - 16) (by omega)] at a16
            rw [HF.out.2.1 (i - 7) (by omega)] at a7
            have fV := hrow.frozenAt i
            have hsv := fun d => own_wset hrow HB3.out i (WW b i) d
            have hnx := WW_next b (n := i) (by omega) hli
            generalize WW b (i - 15) = x at *
            generalize WW b (i - 2) = y at *
            generalize WW b (i - 16) = z at *
            generalize WW b (i - 7) = c7 at *
            generalize l.getD i 0 = old at *
            have HROW := Lib.hid hrow
            have HSV := Lib.hid hsv
            have HNX := Lib.hid hnx
            have HF2 := Lib.hid (HF.out.next hli)
            have HLL := Lib.hid hll
            clear hsv hnx hrow hll
            go_wp2_with (fail)
            have e15 : IntKind.i64.wrap ((i : Int) - 15) = (i : Int) - 15 := IntWalk.i64_in _ (by omega)
            have e2 : IntKind.i64.wrap ((i : Int) - 2) = (i : Int) - 2 := IntWalk.i64_in _ (by omega)
            have e16 : IntKind.i64.wrap ((i : Int) - 16) = (i : Int) - 16 := IntWalk.i64_in _ (by omega)
            have e7 : IntKind.i64.wrap ((i : Int) - 7) = (i : Int) - 7 := IntWalk.i64_in _ (by omega)
            have n15 : ((i : Int) - 15).toNat = i - 15 := by omega
            have n2 : ((i : Int) - 2).toNat = i - 2 := by omega
            have n16 : ((i : Int) - 16).toNat = i - 16 := by omega
            have n7 : ((i : Int) - 7).toNat = i - 7 := by omega
            have p15 : 0 ≤ ((i : Int) - 15) := by omega
            have p2 : 0 ≤ ((i : Int) - 2) := by omega
            have p16 : 0 ≤ ((i : Int) - 16) := by omega
            have p7 : 0 ≤ ((i : Int) - 7) := by omega
            have q15 : ((i : Int) - 15) < 64 := by omega
            have q2 : ((i : Int) - 2) < 64 := by omega
            have q16 : ((i : Int) - 16) < 64 := by omega
            have q7 : ((i : Int) - 7) < 64 := by omega
            have hn0 : (0 : Int) ≤ i := by omega
            have hn64 : (i : Int) < 64 := by omega
            go_quiet (fail)
            clear e15 e2 a15 a2
            go_wp2_with (fail)
            generalize hW5 : World.drewN wr _ = W5
            have s16 : ∀ x2 x3 x4 x5, ({ heap := W5.heap, tape := x2, drawn := x3, os := x4, output := x5 } : World).cell? ⟨wo.heap.size, i - 16, none⟩ = some (.int .u32 (V z)) := fun _ _ _ _ => by rw [← hW5]; exact a16
            have s7 : ∀ x2 x3 x4 x5, ({ heap := W5.heap, tape := x2, drawn := x3, os := x4, output := x5 } : World).cell? ⟨wo.heap.size, i - 7, none⟩ = some (.int .u32 (V c7)) := fun _ _ _ _ => by rw [← hW5]; exact a7
            have b16 : W5.cell? ⟨wo.heap.size, i, none⟩ = some (.int .u32 (V old)) := by rw [← hW5]; exact aw
            have f16 : W5.frozen? ⟨wo.heap.size, i, none⟩ = false := by rw [← hW5]; exact fV
            have hrow5 : W5.ownsRow wo.heap.size 31 1 (.slice (some ⟨wo.heap.size, 0, none⟩) 64 64) 64 (wordsV l) := by rw [← hW5]; exact HROW.out
            have hb5 : Below wo.heap.size wo W5 := by rw [← hW5]; exact below_drewN HB3.out _
            have HSV5 := Lib.hid (fun d => own_wset hrow5 hb5 i (WW b i) d)
            have g16 : (16 : Int) ≤ i := by omega
            have g7 : (7 : Int) ≤ i := by omega
            clear hrow5 hb5 hW5 a16 a7 aw fV HSV HROW HB3 HF
            refine wp_region_still_tail 32 (by kernel_rfl) (by kernel_rfl) ?_
            simp only [List.take_succ_cons, List.take_zero, List.drop_succ_cons, List.drop_zero]
            repeat still_step
            still_call (turn_7 _ _)
            repeat still_step
            still_call (turn_18 _ _)
            repeat still_step
            still_call (turn_17 _ _)
            repeat still_step
            still_call (turn_19 _ _)
            repeat still_step
            refine wpStill_nil ?_
            clear s16 s7 e16 e7
            have hval : z + c7 + (rotr x 7 ^^^ rotr x 18 ^^^ x >>> 3) + (rotr y 17 ^^^ rotr y 19 ^^^ y >>> 10) = WW b i := by
              rw [HNX.out]
              unfold sig0 sig1
              rw [UInt32.add_assoc z c7, UInt32.add_comm c7, ← UInt32.add_assoc]
            rw [hval]
            clear hval
            go_wp2_with (fail)
            go_roundw
            case rel => exact ⟨i + 1, _, by omega, by go_num, (HSV5.out 1).1, HF2, Lib.hid (HSV5.out 1).2⟩
            case measure => simp [intOf]; omega
        · have hi64' : i = 64 := by omega
          have hsch : l = sched b 64 := by have := HF.out; rw [hi64'] at this; exact this.done
          have hB64 : decide ((i : Int) < 64) = false := by simp; omega
          have hown4 := own_below HOWN3.out HB3.out
          have hbs := HB3.out.size
          obtain ⟨Ah, chh, rfl, _, _, hrh⟩ := IsSlice.of_own hown4
          have hrw := Reads.of_own hrow
          rw [hsch] at hrw
          have hblk := block_any Ah (some ⟨wo.heap.size, 0, none⟩) K chh 64 ck hv b wr hrh hrw ((hk.below HB.out).below HB3.out)
          rw [← HRS.out] at hblk
          have HBLK := Lib.hid hblk
          have hkm2 : k + 1 ≤ m := by omega
          clear hblk hrw hrh hrow hown4 hsch hi64'
          go_wp2_with (fail)
          refine HBLK.out.mono ?_
          rintro e w6 ⟨v6, rfl, hown6, hb6⟩
          have hown7 := own_base hown6 (Nat.le_trans HB.out.size hbs)
          have HB7 := Lib.hid ((HB.out.trans (HB3.out.mono HB.out.size)).trans (hb6.mono (Nat.le_trans HB.out.size hbs)))
          clear hown6 hb6
          go_wp2_with (fail)
          go_roundw
          case rel => exact ⟨k + 1, hkm2, by go_num, hown7, HB7⟩
          case measure => simp [intOf]; omega
    · have hkm' : k = m := by omega
      have hsha : sha s = (list8 (runB k H0 P)).flatMap bytes4 := by rw [hkm', HSHA.out, flat_bytes]
      generalize runB k H0 P = hv at *
      have HSH := Lib.hid hsha
      have hge : P.length ≤ 64 * k := by have := HM.out; omega
      have hB : decide (64 * (k : Int) < P.length) = false := by simp; omega
      obtain ⟨Ah, chh, rfl, _, _, hrh⟩ := IsSlice.of_own hown
      have HRH := Lib.hid hrh
      clear hsha hge hkm' hrh hown
      go_wp2_with (fail)
      go_loopw [15, 16, 17] (fun t15 t16 _ W => ∃ i : Nat, i ≤ 8 ∧ t16 = .int .i64 i ∧ OwnM W wo.heap.size 5 t15 (bytesV (((list8 hv).take i).flatMap bytes4)) ∧ Hid (Below wo.heap.size wo W)) (fun _ t16 _ _ => 8 - (intOf t16).toNat)
      case atStart => exact ⟨0, by omega, rfl, .inl ⟨rfl, rfl⟩, Lib.hid (Below.refl _ _)⟩
      case round =>
        obtain ⟨i, hi8, rfl, hown, HB5⟩ := hrel
        by_cases hli : i < 8
        · have hB8 : decide ((i : Int) < 8) = true := by simp; omega
          obtain ⟨w4, rfl⟩ : ∃ w4 : World, w4 = wr := ⟨_, rfl⟩
          have hnext : ((list8 hv).take (i + 1)).flatMap bytes4 = ((list8 hv).take i).flatMap bytes4 ++ bytes4 ((list8 hv).getD i 0) := by
            have hl8 : i < (list8 hv).length := hli
            rw [List.take_succ_eq_append_getElem hl8, List.flatMap_append, List.getD_eq_getElem?_getD, List.getElem?_eq_getElem hl8]
            simp
          have hpl : (((list8 hv).take i).flatMap bytes4).length ≤ 32 := by
            have : ∀ l : List UInt32, (l.flatMap bytes4).length = 4 * l.length := by
              intro l
              induction l with
              | nil => rfl
              | cons x l ih => rw [List.flatMap_cons, List.length_append, ih]; simp [bytes4]; omega
            rw [this, List.length_take]; omega
          have hcx := fun W (hW : Below wo.heap.size wo W) => (HRH.out.below hW).word_at (k := i) hli
          generalize (list8 hv).getD i 0 = x at *
          generalize ((list8 hv).take i).flatMap bytes4 = p at *
          have HN := Lib.hid hnext
          have HCX := Lib.hid hcx
          clear hnext hcx
          go_wp2_with (fail)
          go_loopw [15, 17] (fun t15 t17 W => ∃ j : Nat, j ≤ 4 ∧ t17 = .int .i64 (3 - (j : Int)) ∧ OwnM W wo.heap.size 5 t15 (bytesV (p ++ (bytes4 x).take j)) ∧ Hid (Below wo.heap.size wo W)) (fun _ t17 _ => (intOf t17 + 1).toNat)
          case atStart => exact ⟨0, by omega, rfl, by simpa using hown, HB5⟩
          case round =>
            clear hown HB5
            obtain ⟨j, hj4, rfl, hown, HB5⟩ := hrel
            by_cases hlj : j < 4
            · obtain ⟨ad, rfl, cx⟩ := HCX.out wr HB5.out
              have hsw := HB5.out.size
              have hb4 := bytes4_take x j hlj
              have hl3 : (bytesV (p ++ (bytes4 x).take j)).length ≤ 36 := by rw [bytesV_length, List.length_append, List.length_take]; simp [bytes4]; omega
              have hc8 : (V x / 2 ^ (8 * (3 - j))) % 256 = ((UInt8.ofNat (x.toNat / 2 ^ (24 - 8 * j))).toNat : Int) := by
                rw [show 8 * (3 - j) = 24 - 8 * j by omega]
                rw [UInt8.toNat_ofNat', Int.natCast_emod, Int.natCast_ediv, Int.natCast_pow]; rfl
              generalize hc0 : UInt8.ofNat (x.toNat / 2 ^ (24 - 8 * j)) = c0 at *
              have hsn2 : bytesV (p ++ (bytes4 x).take j) ++ [.int .u8 (c0.toNat : Int)] = bytesV (p ++ (bytes4 x).take (j + 1)) := by
                rw [bytesV_snoc _ _ c0 rfl, hb4, List.append_assoc]
              generalize bytesV (p ++ (bytes4 x).take j) = xs at *
              have HSN := Lib.hid hsn2
              have hj0 : 0 ≤ 3 - (j : Int) := by omega
              have hj3 : (j : Int) ≤ 3 := by omega
              clear hsn2 hb4 hc0
              go_wp2_with (at_builtin; refine wpList_append_m rfl _ _ 68 rfl i1 (.int .u8 0) 1 Try.underlying68 hi1 hy0 hy1 hy2 rfl rfl (hown.alloc _) (.int .u8 (c0.toNat : Int)) ⟨wr.heap.size, 0, none⟩ 1 rfl (by go_simp) rfl ?f3 ?f4 ?f5 ?_)
              case f3 => unfold maxLen; omega
              case f4 => omega
              case f5 => simp; omega
              intro v2 w8 hown2 hg2
              have hb2 : Below wo.heap.size wo w8 := (HB5.out.alloc hsw _).grown hg2 (by simp; omega) (fun k hk => (hown.lt k hk).1)
              rw [HSN.out] at hown2
              have HB8 := Lib.hid hb2
              clear hg2 hb2
              go_wp2_with (fail)
              go_roundw
              case rel => exact ⟨j + 1, by omega, by go_num, hown2, HB8⟩
              case measure => simp [intOf]; omega
            · have hj : j = 4 := by omega
              rw [hj] at hown
              have hown' : OwnM wr wo.heap.size 5 _ (bytesV (p ++ bytes4 x)) := hown
              rw [← HN.out] at hown'
              have hB3 : decide (0 ≤ 3 - (j : Int)) = false := by simp; omega
              clear hown
              go_wp2_with (fail)
              go_roundw
              case rel => exact ⟨i + 1, by omega, by go_num, hown', HB5⟩
              case measure => simp [intOf]; omega
        · have hi8' : i = 8 := by omega
          rw [hi8', show (list8 hv).take 8 = list8 hv from rfl, ← HSH.out] at hown
          have hB8 : decide ((i : Int) < 8) = false := by simp; omega
          have hcv := hown.back (P := Try.prog) 68 9 Try.underlying68 Try.underlying5 Try.underlying9
          have HCV := Lib.hid hcv
          clear hcv hi8'
          go_wp2_with (fail)
          rw [HCV.out]
          go_wp2_with (fail)
          go_ret
          exact ⟨rfl, HB.out.trans (HB5.out.mono HB.out.size)⟩

set_option maxRecDepth 100000 in
set_option maxHeartbeats 400000 in
theorem RefSum_any (s : List UInt8) (w : World) (hs : s.length ≤ 70368744177664) : Calls Try.prog 36 #[.string ⟨s.toArray⟩] w (Ret w (.string ⟨(sha s).toArray⟩)) := by
  go_enter Try.func36, Try.ntmps36
  go_wp2_with (fail)
  refine (Table_any _).mono ?_
  rintro e w1 ⟨v, u, rfl, hv, hu, hb1⟩
  obtain ⟨Av, cv, rfl, _, _, hrv⟩ := IsSlice.of_own hv
  obtain ⟨Au, cu, rfl, _, _, hru⟩ := IsSlice.of_own hu
  go_wp2_with (fail)
  refine (refsum_any Av Au cv cu s w1 hs hrv hru).mono ?_
  rintro e w2 ⟨rfl, hb2⟩
  go_wp2_with (fail)
  go_ret
  exact ⟨rfl, hb1.trans (hb2.mono hb1.size)⟩
end Go.Proofs.Ytgohhhfnffhgmaa
