/- Texts joined: PlainSha2, BigWalk4, BigWalk5, PlainBig, BigWalk1, PlainPrimes. -/
import Derived.Test.YtjajoiahgfafgaaGreatDoorBArchBares1
import Derived.RegionTactic
import Derived.BigRegion
import Derived.BigQuiet
import Derived.StillTailTactics
import Derived.Deep.QuietTactic
import Derived.Laws.BitsAllLaws
import Derived.Test.YtjajoiahgfafgaaGreatDoorBCodeBaseC1
import Derived.OwnWalk
set_option linter.unusedSimpArgs false
set_option linter.unusedVariables false

/- Plain laws of the fingerprint's last part: the bits' number, the padding, the result's bytes. -/
section
namespace Go.Proofs.YtjajoiahgfafgaaGreatDoor.Plain

theorem size8_length (n : Nat) : (size8 n).length = 8 := by simp [size8]
theorem size8_go (n i : Nat) (hi : i < 8) : ((n : Int) * 8 / 2 ^ (56 - 8 * i)) % 256 = (((size8 n).getD i 0).toNat : Int) := by
  have h1 : (size8 n).getD i 0 = UInt8.ofNat (n * 8 / 2 ^ (56 - 8 * i)) := by
    simp [size8, List.getD_eq_getElem?_getD, hi]
  rw [h1, UInt8.toNat_ofNat']
  rw [Int.natCast_emod, Int.natCast_ediv, Int.natCast_mul, Int.natCast_pow]
  rfl
theorem sha_tail (s : List UInt8) : ∃ m, (s.drop (64 * (s.length / 64)) ++ 128 :: (List.replicate (noughts s.length) 0 ++ size8 s.length)).length = 64 * m ∧
    sha s = out8 (runB m (runB (s.length / 64) H0 s) (s.drop (64 * (s.length / 64)) ++ 128 :: (List.replicate (noughts s.length) 0 ++ size8 s.length))) := by
  have hn : noughts s.length = (119 - s.length % 64) % 64 := rfl
  have hlen : (s.drop (64 * (s.length / 64)) ++ 128 :: (List.replicate (noughts s.length) 0 ++ size8 s.length)).length = s.length - 64 * (s.length / 64) + (1 + (noughts s.length + 8)) := by
    simp [size8_length]; omega
  refine ⟨(s.length + 72) / 64 - s.length / 64, by rw [hlen]; omega, ?_⟩
  unfold sha
  rw [show (s.length + 72) / 64 = s.length / 64 + ((s.length + 72) / 64 - s.length / 64) by omega, runB_add, runB_app _ _ _ _ (by omega), List.drop_append_of_le_length (by omega)]
  rw [show s.length / 64 + ((s.length + 72) / 64 - s.length / 64) - s.length / 64 = (s.length + 72) / 64 - s.length / 64 by omega]
  rfl
end Go.Proofs.YtjajoiahgfafgaaGreatDoor.Plain
end

/- hawserref04.turn, padded. -/
section
namespace Go.Proofs.YtjajoiahgfafgaaGreatDoor
open Go.RowKit Plain

theorem turn_eq (x : UInt32) (n m : Nat) (hn : 1 ≤ n) (hm : m + n = 32) (hm1 : 1 ≤ m) : Go.bits .or .u32 (V x / 2 ^ n) (V x * 2 ^ m % 4294967296) = V (rotr x (UInt32.ofNat n)) := by
  rw [V_shl x m (by omega), V_shr x n (by omega), V_or]
  unfold rotr
  have h1 : (32 : UInt32) - UInt32.ofNat n = UInt32.ofNat m := by
    apply UInt32.toNat_inj.1
    rw [UInt32.toNat_sub, UInt32.toNat_ofNat', UInt32.toNat_ofNat']
    simp
    omega
  rw [h1]

set_option maxRecDepth 100000 in
set_option maxHeartbeats 400000 in
theorem turn_gen (x : UInt32) (n m : Nat) (w : World) (hn : 1 ≤ n) (hm : m + n = 32) (hm1 : 1 ≤ m) :
    Calls Tryz.prog 138 #[.int .u32 (V x), .int .u32 (n : Int)] w fun e w' => e = .returned (.int .u32 (V (rotr x (UInt32.ofNat n)))) ∧ w' = w := by
  have hE := turn_eq x n m hn hm hm1
  have hx := V_lt x
  have hmn : (32 : Int) - n = m := by omega
  have b1 : 0 ≤ (m : Int) := by omega
  have b2 : (m : Int) < 32 := by omega
  have b3 : (n : Int) < 32 := by omega
  go_enter Tryz.func138, Tryz.ntmps138
  go_wp2_with (fail)
  go_ret
  exact ⟨rfl, rfl⟩
theorem turn_7 (x : UInt32) (w : World) : Calls Tryz.prog 138 #[.int .u32 (V x), .int .u32 7] w fun e w' => e = .returned (.int .u32 (V (rotr x 7))) ∧ w' = w := turn_gen x 7 25 w (by decide) (by decide) (by decide)
theorem turn_18 (x : UInt32) (w : World) : Calls Tryz.prog 138 #[.int .u32 (V x), .int .u32 18] w fun e w' => e = .returned (.int .u32 (V (rotr x 18))) ∧ w' = w := turn_gen x 18 14 w (by decide) (by decide) (by decide)
theorem turn_17 (x : UInt32) (w : World) : Calls Tryz.prog 138 #[.int .u32 (V x), .int .u32 17] w fun e w' => e = .returned (.int .u32 (V (rotr x 17))) ∧ w' = w := turn_gen x 17 15 w (by decide) (by decide) (by decide)
theorem turn_19 (x : UInt32) (w : World) : Calls Tryz.prog 138 #[.int .u32 (V x), .int .u32 19] w fun e w' => e = .returned (.int .u32 (V (rotr x 19))) ∧ w' = w := turn_gen x 19 13 w (by decide) (by decide) (by decide)
theorem turn_6 (x : UInt32) (w : World) : Calls Tryz.prog 138 #[.int .u32 (V x), .int .u32 6] w fun e w' => e = .returned (.int .u32 (V (rotr x 6))) ∧ w' = w := turn_gen x 6 26 w (by decide) (by decide) (by decide)
theorem turn_11 (x : UInt32) (w : World) : Calls Tryz.prog 138 #[.int .u32 (V x), .int .u32 11] w fun e w' => e = .returned (.int .u32 (V (rotr x 11))) ∧ w' = w := turn_gen x 11 21 w (by decide) (by decide) (by decide)
theorem turn_25 (x : UInt32) (w : World) : Calls Tryz.prog 138 #[.int .u32 (V x), .int .u32 25] w fun e w' => e = .returned (.int .u32 (V (rotr x 25))) ∧ w' = w := turn_gen x 25 7 w (by decide) (by decide) (by decide)
theorem turn_2 (x : UInt32) (w : World) : Calls Tryz.prog 138 #[.int .u32 (V x), .int .u32 2] w fun e w' => e = .returned (.int .u32 (V (rotr x 2))) ∧ w' = w := turn_gen x 2 30 w (by decide) (by decide) (by decide)
theorem turn_13 (x : UInt32) (w : World) : Calls Tryz.prog 138 #[.int .u32 (V x), .int .u32 13] w fun e w' => e = .returned (.int .u32 (V (rotr x 13))) ∧ w' = w := turn_gen x 13 19 w (by decide) (by decide) (by decide)
theorem turn_22 (x : UInt32) (w : World) : Calls Tryz.prog 138 #[.int .u32 (V x), .int .u32 22] w fun e w' => e = .returned (.int .u32 (V (rotr x 22))) ∧ w' = w := turn_gen x 22 10 w (by decide) (by decide) (by decide)

theorem info_byte8 : (Tryz.prog.info? 5).map (fun i => (i.zero, i.size, i.bytes)) = some (some (.int .u8 0), 1, 1) := by kernel_rfl

theorem bytesV_snoc (l : List UInt8) (n : Int) (c : UInt8) (h : n = c.toNat) : bytesV l ++ [.int .u8 n] = bytesV (l ++ [c]) := by subst h; simp [bytesV]
theorem noughts_go (n k : Nat) (hk : k ≤ noughts n) : ((n + 1 + k) % 64 = 56 ↔ k = noughts n) := by
  have hn : noughts n = (119 - n % 64) % 64 := rfl
  omega
theorem size8_take (n j : Nat) (hj : j < 8) : (size8 n).take (j + 1) = (size8 n).take j ++ [UInt8.ofNat (n * 8 / 2 ^ (56 - 8 * j))] := by
  rw [List.take_succ_eq_append_getElem (by rw [size8_length]; exact hj)]
  simp [size8]

set_option maxRecDepth 100000 in
set_option maxHeartbeats 1000000 in
theorem padded_any (s : List UInt8) (w : World) (hs : s.length ≤ 70368744177664) :
    Calls Tryz.prog 137 #[.string ⟨s.toArray⟩] w (Ret w (.string ⟨(s ++ padding s.length).toArray⟩)) := by
  obtain ⟨i0, hi, hz0, hz1, hz2⟩ := info_parts info_byte8
  have hn64 : noughts s.length < 64 := Nat.mod_lt _ (by omega)
  have hs8 := size8_length s.length
  go_enter Tryz.func137, Tryz.ntmps137
  go_wp2_with (fail)
  obtain ⟨cap, C, hconv, hown⟩ := conv_bytes_m (P := Tryz.prog) w 9 63 5 Tryz.underlying9 Tryz.underlying63 Tryz.underlying5 s (by unfold maxLen; omega)
  rw [hconv]
  have hb : Below w.heap.size w (w.alloc (.cells C 5 (cap, cap + 1))).drew := ((Below.refl _ _).alloc (Nat.le_refl _) _).drew
  generalize (w.alloc (.cells C 5 (cap, cap + 1))).drew = W at *
  generalize Value.slice (some ⟨w.heap.size, 0, none⟩) s.length cap = v at *
  clear hconv
  go_wp2_with (at_builtin; refine wpList_append_m rfl _ _ 63 rfl i0 (.int .u8 0) 1 Tryz.underlying63 hi hz0 hz1 hz2 rfl rfl (hown.alloc _) (.int .u8 128) ⟨W.heap.size, 0, none⟩ 1 rfl (by go_simp) rfl ?c3 ?c4 ?c5 ?_)
  case c3 => rw [bytesV_length]; unfold maxLen; omega
  case c4 => rw [bytesV_length]; omega
  case c5 => have := hb.size; simp; omega
  intro v1 w1 hown1 hg1
  have hb1 : Below w.heap.size w w1 := (hb.alloc hb.size _).grown hg1 (by have := hb.size; simp; omega) (fun k hk => (hown.lt k hk).1)
  rw [bytesV_snoc s 128 128 rfl] at hown1
  have HB1 := Lib.hid hb1
  clear hg1 hb1 hb hown
  go_wp2_with (fail)
  go_loopw [3] (fun t3 wr => ∃ k : Nat, k ≤ noughts s.length ∧ OwnM wr w.heap.size 5 t3 (bytesV (s ++ [128] ++ List.replicate k 0)) ∧ Hid (Below w.heap.size w wr)) (fun t3 _ => noughts s.length + s.length + 1 - (match t3 with | .slice _ n _ => n | _ => 0))
  case atStart => exact ⟨0, by omega, by simpa using hown1, HB1⟩
  case round =>
    clear HB1 hown1
    obtain ⟨k, hk, hown, HB⟩ := hrel
    have hN := noughts_go s.length k hk
    obtain ⟨A, c, rfl, hc, hcm⟩ := hown.form
    have hl : (bytesV (s ++ [128] ++ List.replicate k 0)).length = s.length + 1 + k := by simp [bytesV_length]; omega
    rw [hl] at hown hc ⊢
    have hsw := HB.out.size
    by_cases hlt : k < noughts s.length
    · have hB : ((((s.length : Int) + 1 + k) % 64) != 56) = true := by simp; omega
      have hsn : bytesV (s ++ [128] ++ List.replicate k 0) ++ [.int .u8 0] = bytesV (s ++ [128] ++ List.replicate (k + 1) 0) := by
        rw [bytesV_snoc _ 0 0 rfl, List.append_assoc, List.replicate_succ']
      clear hN
      generalize bytesV (s ++ [128] ++ List.replicate k 0) = xs at *
      have HSN := Lib.hid hsn
      have HL := Lib.hid hl
      clear hsn hl
      go_wp2_with (at_builtin; refine wpList_append_m rfl _ _ 63 rfl i0 (.int .u8 0) 1 Tryz.underlying63 hi hz0 hz1 hz2 rfl rfl (hown.alloc _) (.int .u8 0) ⟨wr.heap.size, 0, none⟩ 1 rfl (by go_simp) rfl ?d3 ?d4 ?d5 ?_)
      case d3 => rw [HL.out]; unfold maxLen; omega
      case d4 => rw [HL.out]; omega
      case d5 => simp; omega
      intro v2 w2 hown2 hg2
      have hb2 : Below w.heap.size w w2 := (HB.out.alloc hsw _).grown hg2 (by simp; omega) (fun k hk => (hown.lt k hk).1)
      rw [HSN.out] at hown2
      obtain ⟨A2, c2, rfl, hc2, hcm2⟩ := hown2.form
      have hl2 : (bytesV (s ++ [128] ++ List.replicate (k + 1) 0)).length = s.length + 1 + (k + 1) := by simp [bytesV_length]; omega
      rw [hl2] at hown2 ⊢
      have HB2 := Lib.hid hb2
      clear hg2 hb2 hc2
      go_wp2_with (fail)
      go_roundw
      case rel => exact ⟨k + 1, by omega, by simpa using hown2, HB2⟩
      case measure => simp; omega
    · obtain rfl : k = noughts s.length := by omega
      have hB : ((((s.length : Int) + 1 + (noughts s.length : Nat)) % 64) != 56) = false := by simp; omega
      clear hN
      have hpad : s ++ [128] ++ List.replicate (noughts s.length) 0 ++ size8 s.length = s ++ padding s.length := by simp [padding]
      have h8 := size8_take s.length
      generalize size8 s.length = z8 at *
      generalize s ++ [128] ++ List.replicate (noughts s.length) 0 = p at *
      generalize hnn : noughts s.length = nn at *
      have HP := Lib.hid hpad
      have H8 := Lib.hid h8
      have HNN := Lib.hid hnn
      have HL8 := Lib.hid hs8
      rw [bytesV_length] at hl
      have hpl : p.length ≤ 70368744177764 := by omega
      clear hpad h8 hnn hs8
      go_wp2_with (fail)
      go_loopw [3, 5] (fun t3 t5 wr => ∃ j : Nat, j ≤ 8 ∧ t5 = .int .i64 (7 - (j : Int)) ∧ OwnM wr w.heap.size 5 t3 (bytesV (p ++ z8.take j)) ∧ Hid (Below w.heap.size w wr)) (fun _ t5 _ => (intOf t5 + 1).toNat)
      case atStart => exact ⟨0, by omega, rfl, by simpa using hown, HB⟩
      case round =>
        clear HB hown
        obtain ⟨j, hj, rfl, hown, HB⟩ := hrel
        have hsw := HB.out.size
        by_cases hj8 : j < 8
        · have hl3 : (bytesV (p ++ z8.take j)).length ≤ 70368744177764 + 8 := by rw [bytesV_length, List.length_append, List.length_take]; omega
          have hsn := H8.out j hj8
          have hb0 : 0 ≤ (7 - (j : Int)) := by omega
          have hc8 : ((s.length : Int) * 8 / 2 ^ (8 * (7 - j))) % 256 = ((UInt8.ofNat (s.length * 8 / 2 ^ (56 - 8 * j))).toNat : Int) := by
            rw [show 8 * (7 - j) = 56 - 8 * j by omega]
            rw [UInt8.toNat_ofNat', Int.natCast_emod, Int.natCast_ediv, Int.natCast_mul, Int.natCast_pow]; rfl
          generalize hc0 : UInt8.ofNat (s.length * 8 / 2 ^ (56 - 8 * j)) = c0 at *
          have hsn2 : bytesV (p ++ z8.take j) ++ [.int .u8 (c0.toNat : Int)] = bytesV (p ++ z8.take (j + 1)) := by
            rw [bytesV_snoc _ _ c0 rfl, hsn, List.append_assoc]
          generalize bytesV (p ++ z8.take j) = xs at *
          have HSN := Lib.hid hsn2
          clear hsn hsn2 hc0
          go_wp2_with (at_builtin; refine wpList_append_m rfl _ _ 63 rfl i0 (.int .u8 0) 1 Tryz.underlying63 hi hz0 hz1 hz2 rfl rfl (hown.alloc _) (.int .u8 (c0.toNat : Int)) ⟨wr.heap.size, 0, none⟩ 1 rfl (by go_simp) rfl ?f3 ?f4 ?f5 ?_)
          case f3 => unfold maxLen; omega
          case f4 => omega
          case f5 => simp; omega
          intro v2 w2 hown2 hg2
          have hb2 : Below w.heap.size w w2 := (HB.out.alloc hsw _).grown hg2 (by simp; omega) (fun k hk => (hown.lt k hk).1)
          rw [HSN.out] at hown2
          have HB2 := Lib.hid hb2
          clear hg2 hb2
          go_wp2_with (fail)
          go_roundw
          case rel => exact ⟨j + 1, by omega, by go_num, by simpa using hown2, HB2⟩
          case measure => simp [intOf]; omega
        · obtain rfl : j = 8 := by omega
          rw [List.take_of_length_le (by rw [HL8.out]; omega), HP.out] at hown
          have hcv := hown.back (P := Tryz.prog) 63 9 Tryz.underlying63 Tryz.underlying5 Tryz.underlying9
          have HCV := Lib.hid hcv
          clear hcv
          go_wp2_with (fail)
          rw [HCV.out]
          go_wp2_with (fail)
          go_ret
          exact ⟨rfl, HB.out⟩
end Go.Proofs.YtjajoiahgfafgaaGreatDoor
end

/- hawserref04.block: 64 rounds. -/
section
namespace Go.Proofs.YtjajoiahgfafgaaGreatDoor
open Go.RowKit Plain

def list8 (v : S8) : List UInt32 := [v.a, v.b, v.c, v.d, v.e, v.f, v.g, v.h]
theorem V_wadd (x y : UInt32) : IntKind.u32.wrap (V x + V y) = V (x + y) := by rw [IntKind.wrap_u32, V_add]
theorem V_wrap (x : UInt32) : IntKind.u32.wrap (V x) = V x := by rw [IntKind.wrap_u32]; have := V_lt x; omega
attribute [local go_sem] V_xor V_and V_or V_not V_add V_wadd V_wrap V_shr3 V_shr10

theorem Reads.word_at {w : World} {A : Option Addr} {l : List UInt32} {n k : Nat} (h : Reads w 1 A n (wordsV l)) (hk : k < n) : ∃ ad, A = some ad ∧ w.cell? (ad.add k) = some (.int .u32 (V (l.getD k 0))) := by
  obtain ⟨ad, u, hA, hu, hc⟩ := h.at_ hk
  have hkl : k < l.length := by have := (List.getElem?_eq_some_iff.1 hu).1; simpa [wordsV] using this
  have : (wordsV l)[k]? = some (.int .u32 (V (l.getD k 0))) := by simp [wordsV, hkl, List.getD_eq_getElem?_getD]
  rw [this] at hu
  injection hu with hu
  exact ⟨ad, hA, by rw [hc, hu]⟩

/-- a new row of cells -/
def RowOut' (w : World) (e0 : TypeId) (n : Nat) (xs : List Value) (e : Ending) (w' : World) : Prop := ∃ v, e = .returned v ∧ w'.ownsRow w.heap.size e0 1 v n xs ∧ Below w.heap.size w w'

theorem info_u32' : (Tryz.prog.info? 100).map (fun i => (i.zero, i.size, i.bytes)) = some (some (.int .u32 0), 1, 4) := by kernel_rfl

theorem own_empty (w : World) (e : TypeId) : (w.alloc (.cells #[] e)).ownsRow w.heap.size e 1 (.slice (some ⟨w.heap.size, 0, none⟩) 0 0) 0 [] :=
  ⟨rfl, .inr ⟨w.heap.size, 0, #[], rfl, Nat.le_refl _, heap_alloc_new w _, Nat.le_refl _, by unfold maxLen; omega, rfl, rfl⟩⟩
theorem own_laid (w : World) (xs : List Value) (e : TypeId) (n : Nat) (hn : xs.length = n) (hm : n ≤ maxLen) (base : Nat) (hb : base ≤ w.heap.size) : (w.alloc (.cells xs.toArray e)).ownsRow base e 1 (.slice (some ⟨w.heap.size, 0, none⟩) n n) n xs :=
  ⟨by omega, .inr ⟨w.heap.size, n, _, rfl, hb, heap_alloc_new w _, Nat.le_refl _, hm, by simp [hn], by rw [Nat.mul_one]; exact List.take_of_length_le (by simp; omega)⟩⟩
theorem own_some {w : World} {base n : Nat} {e : TypeId} {v : Value} {xs : List Value} (h : w.ownsRow base e 1 v n xs) (hn : 0 < n) : ∃ g c, v = .slice (some ⟨g, 0, none⟩) n c ∧ base ≤ g := by
  rcases h.2 with ⟨_, h0⟩ | ⟨g, c, cur, hv, hb, _⟩
  · omega
  · exact ⟨g, c, hv, hb⟩
theorem own_word {w : World} {base n g c : Nat} {e : TypeId} {l : List UInt32} (h : w.ownsRow base e 1 (.slice (some ⟨g, 0, none⟩) n c) n (wordsV l)) (j : Nat) (hj : j < n) : w.cell? ⟨g, j, none⟩ = some (.int .u32 (V (l.getD j 0))) := by
  have hl := h.1
  rw [h.cellAt j (by omega)]
  have hjl : j < l.length := by simp [wordsV] at hl; omega
  simp [wordsV, hjl, List.getD_eq_getElem?_getD]
theorem wordsV_set (l : List UInt32) (k : Nat) (x : UInt32) : (wordsV l).set k (.int .u32 (V x)) = wordsV (l.set k x) := by simp [wordsV, List.map_set]
theorem own_wset {w wr : World} {g n cap : Nat} {e : TypeId} {l : List UInt32} (h : wr.ownsRow w.heap.size e 1 (.slice (some ⟨g, 0, none⟩) n cap) n (wordsV l)) (hb : Below w.heap.size w wr) (j : Nat) (x : UInt32) (d : Nat) :
    ((wr.drewN d).setCell ⟨g, j, none⟩ (.int .u32 (V x))).ownsRow w.heap.size e 1 (.slice (some ⟨g, 0, none⟩) n cap) n (wordsV (l.set j x)) ∧ Below w.heap.size w ((wr.drewN d).setCell ⟨g, j, none⟩ (.int .u32 (V x))) := by
  have h' : (wr.drewN d).ownsRow w.heap.size e 1 (.slice (some ⟨g, 0, none⟩) n cap) n (wordsV l) := h
  have h2 := h'.stored j (.int .u32 (V x))
  rw [wordsV_set] at h2
  exact ⟨h2.1, (below_drewN hb d).setCell (h.lt g rfl).1 _⟩
theorem runW_succ (W : List UInt32) (h : S8) (n : Nat) : runW W h (n + 1) = Plain.step (runW W h n) (KK.getD n 0) (W.getD n 0) := rfl
theorem quiet_more {P : Program} {f : FuncId} {args : Array Value} {w : World} {v : Value} {a b : Nat} (h : Calls P f args (w.drewN (a + b)) fun e w' => e = .returned v ∧ w' = w.drewN (a + b)) :
    Calls P f args (w.drewN (a + b)) fun e w'' => e = .returned v ∧ ∃ n, w'' = w.drewN (a + n) := h.mono fun _ _ ⟨he, hw⟩ => ⟨he, b, hw⟩
theorem turnR {x y : UInt32} {k : Int} {w : World} (h : Calls Tryz.prog 138 #[.int .u32 (V x), .int .u32 k] w fun e w' => e = .returned (.int .u32 (V y)) ∧ w' = w) : Calls Tryz.prog 138 #[.int .u32 (V x), .int .u32 k] w (Ret w (.int .u32 (V y))) :=
  h.mono fun _ _ ⟨he, hw⟩ => ⟨he, by rw [hw]; exact Below.refl _ _⟩

set_option maxRecDepth 100000 in
set_option maxHeartbeats 4000000 in
theorem block_any (H B K : Option Addr) (ch cw ck : Nat) (h : S8) (b : List UInt8) (w : World) (hh : Reads w 1 H 8 (wordsV (list8 h))) (hw : Reads w 1 B 64 (wordsV (sched b 64))) (hk : Reads w 1 K 64 (wordsV KK)) :
    Calls Tryz.prog 139 #[.slice H 8 ch, .slice B 64 cw, .slice K 64 ck] w (RowOut' w 100 8 (wordsV (list8 (round h b)))) := by
  obtain ⟨i0, hi, hz0, hz1, hz2⟩ := info_parts info_u32'
  obtain ⟨ha, rfl, _⟩ := hh.word_at (k := 0) (by omega)
  have hH := hh.2 (by omega)
  obtain ⟨ha', e', hcH⟩ := hH
  injection e' with e'
  subst e'
  have HH := Lib.hid hh
  have HCH := Lib.hid hcH
  clear hcH hh
  go_enter Tryz.func139, Tryz.ntmps139
  go_wp2_with (at_builtin; refine wpList_append_own _ rfl _ _ 139 rfl w.heap.size 100 i0 (.int .u32 0) 1 4 Tryz.underlying139 hi hz0 hz1 hz2 rfl (by decide) _ _ _ rfl (own_empty w _) ha 8 ch (wordsV (list8 h)) rfl rfl ?c1 ?c2 ?c3 ?c4 ?c5 ?_)
  case c1 => exact fun j u hj => (((Below.refl w.heap.size w).alloc (Nat.le_refl _) _).cell (World.block_lt_of_cell? _ _ (HCH.out j u hj))).trans (HCH.out j u hj)
  case c2 => intro u hu; simp only [wordsV, List.mem_map] at hu; obtain ⟨_, _, rfl⟩ := hu; rfl
  case c3 => unfold maxLen; omega
  case c4 => omega
  case c5 => simp
  intro v1 w1 hown hgrow _
  have hb1 : Below w.heap.size w w1 := ((Below.refl w.heap.size w).alloc (Nat.le_refl _) _).grown hgrow (by simp) (fun k hk => ((own_empty w 100).lt k hk).1)
  have HB1 := Lib.hid hb1
  clear hgrow hb1
  go_wp2_with (fail)
  go_loopw [7, 8] (fun t7 t8 W => ∃ n : Nat, n ≤ 64 ∧ t8 = .int .i64 n ∧ W.ownsRow w.heap.size 100 1 t7 8 (wordsV (list8 (runW (sched b 64) h n))) ∧ Hid (Below w.heap.size w W)) (fun _ t8 _ => 64 - (intOf t8).toNat)
  case atStart => exact ⟨0, by omega, rfl, hown, HB1⟩
  case round =>
    clear HB1 hown
    obtain ⟨n, hn, rfl, hown, HB⟩ := hrel
    by_cases hlt : n < 64
    · obtain ⟨g, c, rfl, hg⟩ := own_some hown (by omega)
      obtain ⟨kd, rfl, ck0⟩ := (hk.below HB.out).word_at hlt
      obtain ⟨bd, rfl, cb0⟩ := (hw.below HB.out).word_at hlt
      have hst := runW_succ (sched b 64) h n
      generalize runW (sched b 64) h n = v at *
      generalize KK.getD n 0 = kk at *
      generalize (sched b 64).getD n 0 = ww at *
      have q0 : wr.cell? ⟨g, 0, none⟩ = some (.int .u32 (V v.a)) := own_word hown 0 (by omega)
      have q1 : wr.cell? ⟨g, 1, none⟩ = some (.int .u32 (V v.b)) := own_word hown 1 (by omega)
      have q2 : wr.cell? ⟨g, 2, none⟩ = some (.int .u32 (V v.c)) := own_word hown 2 (by omega)
      have q3 : wr.cell? ⟨g, 3, none⟩ = some (.int .u32 (V v.d)) := own_word hown 3 (by omega)
      have q4 : wr.cell? ⟨g, 4, none⟩ = some (.int .u32 (V v.e)) := own_word hown 4 (by omega)
      have q5 : wr.cell? ⟨g, 5, none⟩ = some (.int .u32 (V v.f)) := own_word hown 5 (by omega)
      have q6 : wr.cell? ⟨g, 6, none⟩ = some (.int .u32 (V v.g)) := own_word hown 6 (by omega)
      have q7 : wr.cell? ⟨g, 7, none⟩ = some (.int .u32 (V v.h)) := own_word hown 7 (by omega)
      have HST := Lib.hid hst
      have pn : (0 : Int) ≤ n := by omega
      have qn : (n : Int) < 64 := by omega
      clear hst hown
      go_wp2_with (fail)
      go_quiet (fail)
      go_wp2_with (fail)
      refine wp_region_quiet_lit (by kernel_rfl) (by kernel_rfl) ?_
      repeat (go_big_quiet_step (fail))
      go_big_quiet_step ((go_at_call 138; exact quiet_more (turn_6 _ _)))
      repeat (go_big_quiet_step (fail))
      go_big_quiet_step ((go_at_call 138; exact quiet_more (turn_11 _ _)))
      repeat (go_big_quiet_step (fail))
      go_big_quiet_step ((go_at_call 138; exact quiet_more (turn_25 _ _)))
      repeat (go_big_quiet_step (fail))
      refine wpQuiet_nil ?_
      intro _ hw'
      obtain ⟨nq2, hw''⟩ := hw'
      subst hw''
      simp only [not_form, V_not, V_and, V_xor, V_add3, V_add]
      generalize htt : v.h + (rotr v.e 6 ^^^ rotr v.e 11 ^^^ rotr v.e 25) + (v.e &&& v.f ^^^ ~~~v.e &&& v.g) + kk + ww = t
      have HTT := Lib.hid htt
      clear htt
      go_wp2_with (fail)
      refine wp_region_quiet_lit (by kernel_rfl) (by kernel_rfl) ?_
      repeat (go_big_quiet_step (fail))
      go_big_quiet_step ((go_at_call 138; exact quiet_more (turn_2 _ _)))
      repeat (go_big_quiet_step (fail))
      go_big_quiet_step ((go_at_call 138; exact quiet_more (turn_13 _ _)))
      repeat (go_big_quiet_step (fail))
      go_big_quiet_step ((go_at_call 138; exact quiet_more (turn_22 _ _)))
      repeat (go_big_quiet_step (fail))
      refine wpQuiet_nil ?_
      intro _ hw'
      obtain ⟨nq3, hw''⟩ := hw'
      subst hw''
      generalize huu : (rotr v.a 2 ^^^ rotr v.a 13 ^^^ rotr v.a 22) + (v.a &&& v.b ^^^ v.a &&& v.c ^^^ v.b &&& v.c) = u
      have HUU := Lib.hid huu
      clear huu
      go_wp2_with (fail)
      obtain ⟨W3, hW3⟩ : ∃ W3, W3 = ((wr.drewN nq).drewN nq2).drewN nq3 := ⟨_, rfl⟩
      rw [← hW3]
      have r0 : W3.cell? ⟨g, 0, none⟩ = some (.int .u32 (V v.a)) := by rw [hW3]; exact q0
      have r1 : W3.cell? ⟨g, 1, none⟩ = some (.int .u32 (V v.b)) := by rw [hW3]; exact q1
      have r2 : W3.cell? ⟨g, 2, none⟩ = some (.int .u32 (V v.c)) := by rw [hW3]; exact q2
      have r3 : W3.cell? ⟨g, 3, none⟩ = some (.int .u32 (V v.d)) := by rw [hW3]; exact q3
      have r4 : W3.cell? ⟨g, 4, none⟩ = some (.int .u32 (V v.e)) := by rw [hW3]; exact q4
      have r5 : W3.cell? ⟨g, 5, none⟩ = some (.int .u32 (V v.f)) := by rw [hW3]; exact q5
      have r6 : W3.cell? ⟨g, 6, none⟩ = some (.int .u32 (V v.g)) := by rw [hW3]; exact q6
      have r7 : W3.cell? ⟨g, 7, none⟩ = some (.int .u32 (V v.h)) := by rw [hW3]; exact q7
      have HB3 : Hid (Below w.heap.size w W3) := Lib.hid (by rw [hW3]; exact below_drewN (below_drewN (below_drewN HB.out _) _) _)
      clear hW3 q0 q1 q2 q3 q4 q5 q6 q7 ck0 cb0
      have s0 : ∀ x2 x3 x4 x5, ({ heap := W3.heap, tape := x2, drawn := x3, os := x4, output := x5 } : World).cell? ⟨g, 0, none⟩ = some (.int .u32 (V v.a)) := fun _ _ _ _ => r0
      have s1 : ∀ x2 x3 x4 x5, ({ heap := W3.heap, tape := x2, drawn := x3, os := x4, output := x5 } : World).cell? ⟨g, 1, none⟩ = some (.int .u32 (V v.b)) := fun _ _ _ _ => r1
      have s2 : ∀ x2 x3 x4 x5, ({ heap := W3.heap, tape := x2, drawn := x3, os := x4, output := x5 } : World).cell? ⟨g, 2, none⟩ = some (.int .u32 (V v.c)) := fun _ _ _ _ => r2
      have s3 : ∀ x2 x3 x4 x5, ({ heap := W3.heap, tape := x2, drawn := x3, os := x4, output := x5 } : World).cell? ⟨g, 3, none⟩ = some (.int .u32 (V v.d)) := fun _ _ _ _ => r3
      have s4 : ∀ x2 x3 x4 x5, ({ heap := W3.heap, tape := x2, drawn := x3, os := x4, output := x5 } : World).cell? ⟨g, 4, none⟩ = some (.int .u32 (V v.e)) := fun _ _ _ _ => r4
      have s5 : ∀ x2 x3 x4 x5, ({ heap := W3.heap, tape := x2, drawn := x3, os := x4, output := x5 } : World).cell? ⟨g, 5, none⟩ = some (.int .u32 (V v.f)) := fun _ _ _ _ => r5
      have s6 : ∀ x2 x3 x4 x5, ({ heap := W3.heap, tape := x2, drawn := x3, os := x4, output := x5 } : World).cell? ⟨g, 6, none⟩ = some (.int .u32 (V v.g)) := fun _ _ _ _ => r6
      have s7 : ∀ x2 x3 x4 x5, ({ heap := W3.heap, tape := x2, drawn := x3, os := x4, output := x5 } : World).cell? ⟨g, 7, none⟩ = some (.int .u32 (V v.h)) := fun _ _ _ _ => r7
      go_still_tail 26, (by kernel_rfl)
      clear s0 s1 s2 s3 s4 s5 s6 s7
      clear r0 r1 r2 r3 r4 r5 r6 r7
      go_wp2_with (fail)
      go_roundw
      case rel =>
        refine ⟨n + 1, by omega, by go_num, ?_, Lib.hid ((HB3.out.alloc HB3.out.size _).drew)⟩
        have hE : wordsV (list8 (runW (sched b 64) h (n + 1))) = [.int .u32 (V (t + u)), .int .u32 (V v.a), .int .u32 (V v.b), .int .u32 (V v.c), .int .u32 (V (v.d + t)), .int .u32 (V v.e), .int .u32 (V v.f), .int .u32 (V v.g)] := by
          rw [HST.out, ← HTT.out, ← HUU.out]
          simp only [wordsV, list8, Plain.step, Sig0, Sig1, Plain.ch, maj, List.map_cons, List.map_nil]
        rw [hE]
        exact own_laid W3 _ _ 8 rfl (by unfold maxLen; omega) _ HB3.out.size
      case measure => simp [intOf]; omega
    · have hrd : round h b = add8 (runW (sched b 64) h n) h := by rw [show n = 64 by omega]; rfl
      have HRD := Lib.hid hrd
      clear hrd
      generalize runW (sched b 64) h n = v at *
      obtain ⟨g, c, rfl, hg⟩ := own_some hown (by omega)
      go_wp2_with (fail)
      go_loopw [13] (fun t13 W => ∃ (m : Nat) (l : List UInt32), m ≤ 8 ∧ t13 = .int .i64 m ∧ W.ownsRow w.heap.size 100 1 (.slice (some ⟨g, 0, none⟩) 8 c) 8 (wordsV l) ∧ Hid (∀ j, j < 8 → l.getD j 0 = if j < m then (list8 v).getD j 0 + (list8 h).getD j 0 else (list8 v).getD j 0) ∧ Hid (Below w.heap.size w W)) (fun t13 _ => 8 - (intOf t13).toNat)
      case atStart => exact ⟨0, list8 v, by omega, rfl, hown, Lib.hid (fun j hj => by rw [if_neg (by omega)]), HB⟩
      case round =>
        clear hown HB
        obtain ⟨m, l, hm, rfl, hown, HL, HB⟩ := hrel
        by_cases hlt : m < 8
        · obtain ⟨ha', e', cH⟩ := (HH.out.below HB.out).word_at hlt
          injection e' with e'
          subst e'
          have cV := own_word hown m hlt
          have fV := hown.frozenAt m
          have hnew := HL.out m hlt
          rw [if_neg (by omega)] at hnew
          rw [hnew] at cV
          have hset := fun d => own_wset hown HB.out m ((list8 v).getD m 0 + (list8 h).getD m 0) d
          generalize hx : (list8 v).getD m 0 = x at *
          generalize hy : (list8 h).getD m 0 = y at *
          have HSET := Lib.hid hset
          have HX := Lib.hid hx
          have HY := Lib.hid hy
          have pn : (0 : Int) ≤ m := by omega
          have qn : (m : Int) < 8 := by omega
          have s1 : ∀ x2 x3 x4 x5, ({ heap := wr.heap, tape := x2, drawn := x3, os := x4, output := x5 } : World).cell? ⟨g, m, none⟩ = some (.int .u32 (V x)) := fun _ _ _ _ => cV
          have s2 : ∀ x2 x3 x4 x5, ({ heap := wr.heap, tape := x2, drawn := x3, os := x4, output := x5 } : World).cell? (ha.add m) = some (.int .u32 (V y)) := fun _ _ _ _ => cH
          clear hset hx hy hnew
          go_wp2_with (fail)
          go_still_tail 12, (by kernel_rfl)
          clear s1 s2
          go_wp2_with (fail)
          go_roundw
          case rel =>
            have h0 := HSET.out 1
            refine ⟨m + 1, l.set m (x + y), by omega, by go_num, ?_, Lib.hid ?_, ?_⟩
            · exact h0.1
            · intro j hj
              have hll : l.length = 8 := by have := hown.1; simpa [wordsV] using this
              have hj1 := HL.out j hj
              by_cases e : j = m
              · subst e
                rw [if_pos (by omega), HX.out, HY.out]
                simp [List.getD_eq_getElem?_getD, hll, hj]
              · rw [List.getD_eq_getElem?_getD, List.getElem?_set_ne (Ne.symm e), ← List.getD_eq_getElem?_getD, hj1]
                by_cases e2 : j < m
                · rw [if_pos e2, if_pos (by omega)]
                · rw [if_neg e2, if_neg (by omega)]
            · exact Lib.hid h0.2
          case measure => simp [intOf]; omega
        · obtain rfl : m = 8 := by omega
          have hE : wordsV l = wordsV (list8 (round h b)) := by
            have hll : l.length = 8 := by have := hown.1; simpa [wordsV] using this
            have hl2 : (list8 (add8 v h)).length = 8 := rfl
            rw [HRD.out]
            congr 1
            apply List.ext_getElem (by rw [hll, hl2])
            intro j h1 h2
            have hj := HL.out j (by omega)
            rw [if_pos (by omega)] at hj
            rw [List.getD_eq_getElem?_getD, List.getElem?_eq_getElem h1] at hj
            have hj2 : l[j] = (list8 v).getD j 0 + (list8 h).getD j 0 := hj
            rw [hj2]
            match j, h2 with
            | 0, _ => rfl
            | 1, _ => rfl
            | 2, _ => rfl
            | 3, _ => rfl
            | 4, _ => rfl
            | 5, _ => rfl
            | 6, _ => rfl
            | 7, _ => rfl
          go_wp2_with (fail)
          go_ret
          exact ⟨_, rfl, by rw [← hE]; exact hown, HB.out⟩
end Go.Proofs.YtjajoiahgfafgaaGreatDoor
end

/- Plain laws of numbers in words of 32 bits: no program in sight. -/
section
namespace Go.Proofs.YtjajoiahgfafgaaGreatDoor.Plain

/-- what words of 32 bits say, the lowest ahead -/
def val : List Nat → Nat
  | [] => 0
  | x :: l => x + 4294967296 * val l
def Words (l : List Nat) : Prop := ∀ k, l.getD k 0 < 4294967296

theorem val_nil : val [] = 0 := rfl
theorem val_zeros (n : Nat) : val (List.replicate n 0) = 0 := by
  induction n with
  | zero => rfl
  | succ n ih => simp [List.replicate_succ, val, ih]
theorem val_append (l m : List Nat) : val (l ++ m) = val l + 4294967296 ^ l.length * val m := by
  induction l with
  | nil => simp [val]
  | cons x l ih =>
    simp only [List.cons_append, val, ih, List.length_cons, Nat.pow_succ]
    rw [Nat.mul_comm (4294967296 ^ l.length) 4294967296, Nat.mul_assoc]
    generalize 4294967296 ^ l.length * val m = p
    omega
theorem val_set : ∀ (l : List Nat) (k x : Nat), k < l.length → val (l.set k x) + l.getD k 0 * 4294967296 ^ k = val l + x * 4294967296 ^ k
  | [], _, _, h => by simp at h
  | y :: l, 0, x, _ => by simp [val]; omega
  | y :: l, k + 1, x, h => by
    have ih := val_set l k x (by simpa using h)
    simp only [List.set_cons_succ, val, List.getD_cons_succ, Nat.pow_succ]
    rw [← Nat.mul_assoc, ← Nat.mul_assoc]
    generalize l.getD k 0 * 4294967296 ^ k = p at *
    generalize x * 4294967296 ^ k = q at *
    omega
theorem val_take_succ : ∀ (l : List Nat) (k : Nat), val (l.take (k + 1)) = val (l.take k) + l.getD k 0 * 4294967296 ^ k
  | [], k => by simp [val]
  | y :: l, 0 => by simp [val]
  | y :: l, k + 1 => by
    have ih := val_take_succ l k
    simp only [List.take_succ_cons, val, List.getD_cons_succ, Nat.pow_succ] at ih ⊢
    rw [ih, ← Nat.mul_assoc]
    generalize l.getD k 0 * 4294967296 ^ k = p at *
    omega
theorem val_split : ∀ (l : List Nat) (k : Nat), Words l → ∃ r, val l = r + 4294967296 ^ k * l.getD k 0 + 4294967296 ^ k * (4294967296 * val (l.drop (k + 1))) ∧ r < 4294967296 ^ k
  | [], k, _ => ⟨0, by simp [val], Nat.pow_pos (by omega)⟩
  | y :: l, 0, _ => ⟨0, by simp [val], by simp⟩
  | y :: l, k + 1, h => by
    obtain ⟨r, h1, h2⟩ := val_split l k (fun j => by simpa using h (j + 1))
    have hy : y < 4294967296 := by simpa using h 0
    refine ⟨y + 4294967296 * r, ?_, ?_⟩
    · simp only [val, List.getD_cons_succ, List.drop_succ_cons, Nat.pow_succ]
      rw [Nat.mul_comm (4294967296 ^ k) 4294967296, Nat.mul_assoc, Nat.mul_assoc]
      generalize 4294967296 ^ k * l.getD k 0 = p at *
      generalize 4294967296 ^ k * (4294967296 * val (l.drop (k + 1))) = q at *
      omega
    · rw [Nat.pow_succ]; omega

theorem val_cmp (a b : List Nat) (i : Nat) (ha : Words a) (hb : Words b) (hd : val (a.drop (i + 1)) = val (b.drop (i + 1))) (hne : a.getD i 0 ≠ b.getD i 0) : (val b < val a ↔ b.getD i 0 < a.getD i 0) := by
  obtain ⟨r, h1, h2⟩ := val_split a i ha
  obtain ⟨s, h3, h4⟩ := val_split b i hb
  rw [h1, h3, hd]
  generalize 4294967296 ^ i * (4294967296 * val (b.drop (i + 1))) = q at *
  generalize a.getD i 0 = x at *
  generalize b.getD i 0 = y at *
  generalize 4294967296 ^ i = K at *
  rcases Nat.lt_or_ge y x with h | h
  · have := Nat.mul_le_mul_left K (show y + 1 ≤ x by omega)
    rw [Nat.mul_add, Nat.mul_one] at this
    constructor <;> intro _ <;> omega
  · have := Nat.mul_le_mul_left K (show x + 1 ≤ y by omega)
    rw [Nat.mul_add, Nat.mul_one] at this
    constructor <;> intro _ <;> omega

theorem drop_one (l : List Nat) (i : Nat) : val (l.drop i) = l.getD i 0 + 4294967296 * val (l.drop (i + 1)) := by
  induction l generalizing i with
  | nil => simp [val]
  | cons y l ih =>
    cases i with
    | zero => simp [val]
    | succ i => simpa using ih i

/-- what stands in the middle of the multiplication: row i, place j, c carried -/
structure TimesIn (a b v : List Nat) (i j c : Nat) : Prop where
  len : v.length = a.length + b.length + 1
  words : Words v
  zero : ∀ k, i + b.length ≤ k → i + j ≤ k → v.getD k 0 = 0
  eq : val v + c * 4294967296 ^ (i + j) = val (a.take i) * val b + a.getD i 0 * 4294967296 ^ i * val (b.take j)
  c_lt : c < 4294967296
  j_le : j ≤ b.length + 1
  c_end : j = b.length + 1 → c = 0

theorem getD_set (l : List Nat) (k x j : Nat) (h : k < l.length) : (l.set k x).getD j 0 = if j = k then x else l.getD j 0 := by
  simp only [List.getD_eq_getElem?_getD, List.getElem?_set]
  by_cases e : j = k
  · subst e; simp [h]
  · rw [if_neg (fun h => e h.symm), if_neg e]

theorem mul_bound {x y : Nat} (hx : x < 4294967296) (hy : y < 4294967296) : x * y ≤ 18446744065119617025 := by
  have := Nat.mul_le_mul (show x ≤ 4294967295 by omega) (show y ≤ 4294967295 by omega); omega

theorem TimesIn.step {a b v : List Nat} {i j c m : Nat} (h : TimesIn a b v i j c) (ha : Words a) (hi : i < a.length) (hgo : j < b.length ∧ m = a.getD i 0 * b.getD j 0 ∨ b.length ≤ j ∧ 0 < c ∧ m = 0) (hm : m ≤ 18446744065119617025) :
    TimesIn a b (v.set (i + j) ((v.getD (i + j) 0 + c + m) % 4294967296)) i (j + 1) ((v.getD (i + j) 0 + c + m) / 4294967296) ∧ v.getD (i + j) 0 + c + m < 18446744073709551616 ∧ i + j < v.length := by
  have hvk := h.words (i + j)
  have hc := h.c_lt
  have hj : j ≤ b.length := by
    have h1 := h.j_le
    have h2 := h.c_end
    omega
  have hlt : i + j < v.length := by rw [h.len]; omega
  have hend : b.length ≤ j → v.getD (i + j) 0 = 0 := fun hb => h.zero _ (by omega) (Nat.le_refl _)
  refine ⟨⟨by rw [List.length_set]; exact h.len, ?_, ?_, ?_, by omega, by omega, ?_⟩, by omega, hlt⟩
  · intro k
    rw [getD_set _ _ _ _ hlt]
    split
    · omega
    · exact h.words k
  · intro k h1 h2
    rw [getD_set _ _ _ _ hlt, if_neg (by omega)]
    exact h.zero k h1 (by omega)
  · have h1 := val_set v (i + j) ((v.getD (i + j) 0 + c + m) % 4294967296) hlt
    have h2 := h.eq
    have hmk : a.getD i 0 * 4294967296 ^ i * val (b.take (j + 1)) = a.getD i 0 * 4294967296 ^ i * val (b.take j) + m * 4294967296 ^ (i + j) := by
      rcases hgo with ⟨hjb, rfl⟩ | ⟨hjb, _, rfl⟩
      · rw [val_take_succ, Nat.mul_add, Nat.pow_add]
        congr 1
        generalize 4294967296 ^ i = X
        generalize 4294967296 ^ j = Y
        rw [Nat.mul_assoc, Nat.mul_assoc, Nat.mul_left_comm X]
      · rw [List.take_of_length_le (by omega), List.take_of_length_le (by omega)]; omega
    rw [hmk, show i + (j + 1) = (i + j) + 1 by omega, Nat.pow_succ]
    have ht := Nat.mod_add_div (v.getD (i + j) 0 + c + m) 4294967296
    have hK := congrArg (· * 4294967296 ^ (i + j)) ht
    simp only [Nat.add_mul] at hK
    have e2 : (v.getD (i + j) 0 + c + m) / 4294967296 * (4294967296 ^ (i + j) * 4294967296) = 4294967296 * ((v.getD (i + j) 0 + c + m) / 4294967296) * 4294967296 ^ (i + j) := by
      rw [Nat.mul_comm (4294967296 ^ (i + j)), ← Nat.mul_assoc, Nat.mul_comm 4294967296]
    rw [e2]
    generalize (v.getD (i + j) 0 + c + m) % 4294967296 * 4294967296 ^ (i + j) = p1 at *
    generalize 4294967296 * ((v.getD (i + j) 0 + c + m) / 4294967296) * 4294967296 ^ (i + j) = p2 at *
    generalize v.getD (i + j) 0 * 4294967296 ^ (i + j) = p3 at *
    generalize c * 4294967296 ^ (i + j) = p4 at *
    generalize m * 4294967296 ^ (i + j) = p5 at *
    omega
  · intro e
    have := hend (by omega)
    rcases hgo with ⟨hjb, _⟩ | ⟨_, _, rfl⟩
    · omega
    · omega

/-- a row more -/
theorem TimesIn.row {a b v : List Nat} {i j : Nat} (h : TimesIn a b v i j 0) (hj : b.length ≤ j) : TimesIn a b v (i + 1) 0 0 := by
  refine ⟨h.len, h.words, fun k h1 _ => h.zero k (by omega) (by have := h.j_le; omega), ?_, by omega, by omega, fun _ => rfl⟩
  have h1 := h.eq
  rw [List.take_of_length_le hj, Nat.zero_mul, Nat.add_zero] at h1
  rw [val_take_succ, Nat.add_mul, List.take_zero, val_nil, Nat.zero_mul, Nat.add_zero, h1, Nat.mul_zero, Nat.add_zero]
theorem TimesIn.start (a b : List Nat) : TimesIn a b (List.replicate (a.length + b.length + 1) 0) 0 0 0 := by
  have hz : ∀ n k, (List.replicate n 0).getD k 0 = 0 := by
    intro n k
    simp only [List.getD_eq_getElem?_getD, List.getElem?_replicate]; split <;> rfl
  refine ⟨by simp, fun k => by rw [hz]; omega, fun k _ _ => hz _ _, ?_, by omega, by omega, fun _ => rfl⟩
  rw [val_zeros, List.take_zero, List.take_zero, val_nil, Nat.mul_zero, Nat.zero_mul, Nat.zero_mul]
theorem TimesIn.done {a b v : List Nat} (h : TimesIn a b v a.length 0 0) : val v = val a * val b ∧ Words v := by
  have h1 := h.eq
  rw [List.take_of_length_le (Nat.le_refl _), List.take_zero, val_nil, Nat.mul_zero, Nat.zero_mul, Nat.add_zero, Nat.add_zero] at h1
  exact ⟨h1, h.words⟩

/-- u64s as cells -/
theorem pow_mono {x y k : Nat} (h : x ≤ y) : x ^ k ≤ y ^ k := Nat.pow_le_pow_left h k
end Go.Proofs.YtjajoiahgfafgaaGreatDoor.Plain
end

/- hawserref04.times, greater: numbers in words of 32 bits. -/
section
namespace Go.Proofs.YtjajoiahgfafgaaGreatDoor
open Go.RowKit Plain

def u64s (l : List Nat) : List Value := l.map fun (x : Nat) => .int .u64 (x : Int)
theorem u64s_length (l : List Nat) : (u64s l).length = l.length := by simp [u64s]
theorem u64s_get {l : List Nat} {k : Nat} (h : k < l.length) : (u64s l)[k]? = some (.int .u64 (l.getD k 0 : Nat)) := by
  simp [u64s, h, List.getD_eq_getElem?_getD]
theorem u64s_set (l : List Nat) (k x : Nat) : (u64s l).set k (.int .u64 (x : Int)) = u64s (l.set k x) := by simp [u64s, List.map_set]
theorem Reads.u64_at {w : World} {A : Option Addr} {l : List Nat} {k : Nat} (h : Reads w 1 A l.length (u64s l)) (hk : k < l.length) : ∃ ad, A = some ad ∧ w.cell? (ad.add k) = some (.int .u64 (l.getD k 0 : Nat)) := by
  obtain ⟨ad, u, hA, hu, hc⟩ := h.at_ hk
  rw [u64s_get hk] at hu
  injection hu with hu
  exact ⟨ad, hA, by rw [hc, hu]⟩
theorem madeU64 (n : Nat) : (madeCells #[Value.int .u64 0] n).toList = u64s (List.replicate n 0) := by
  apply List.ext_getElem?
  intro k
  simp only [madeCells, u64s, List.getElem?_map, List.getElem?_replicate]
  by_cases h : k < n
  · simp [h, Nat.mod_one]
  · simp [h]

theorem own_set {w wr : World} {g n cap : Nat} {e : TypeId} {l : List Nat} (h : wr.ownsRow w.heap.size e 1 (.slice (some ⟨g, 0, none⟩) n cap) n (u64s l)) (hb : Below w.heap.size w wr) (j x : Nat) :
    ∀ d, ((wr.drewN d).setCell ⟨g, j, none⟩ (.int .u64 (x : Int))).ownsRow w.heap.size e 1 (.slice (some ⟨g, 0, none⟩) n cap) n (u64s (l.set j x)) ∧ Below w.heap.size w ((wr.drewN d).setCell ⟨g, j, none⟩ (.int .u64 (x : Int))) := by
  intro d
  have h' : (wr.drewN d).ownsRow w.heap.size e 1 (.slice (some ⟨g, 0, none⟩) n cap) n (u64s l) := h
  have h2 := h'.stored j (.int .u64 (x : Int))
  rw [u64s_set] at h2
  exact ⟨h2.1, (below_drewN hb d).setCell (h.lt g rfl).1 _⟩

theorem info_u64 : (Tryz.prog.info? 110).map (fun i => (i.zero, i.size, i.bytes)) = some (some (.int .u64 0), 1, 8) := by kernel_rfl

/-- a new slice that says x, of n words -/
def BigOut (w : World) (x n : Nat) (e : Ending) (w' : World) : Prop := ∃ (g : Nat) (v : List Nat), e = .returned (.slice (some ⟨g, 0, none⟩) v.length v.length) ∧ Below w.heap.size w w' ∧ Reads w' 1 (some ⟨g, 0, none⟩) v.length (u64s v) ∧ Words v ∧ val v = x ∧ v.length = n

set_option maxHeartbeats 1000000 in
theorem times_any (A B : Option Addr) (ca cb : Nat) (a b : List Nat) (w : World) (ha : Reads w 1 A a.length (u64s a)) (hb : Reads w 1 B b.length (u64s b)) (wa : Words a) (wb : Words b) (hla : a.length ≤ 1000) (hlb : b.length ≤ 1000) :
    Calls Tryz.prog 159 #[.slice A a.length ca, .slice B b.length cb] w (BigOut w (val a * val b) (a.length + b.length + 1)) := by
  obtain ⟨i0, hi, hz0, hz1, hz2⟩ := info_parts info_u64
  go_enter Tryz.func159, Tryz.ntmps159
  go_wp2_with (at_make; refine wpList_make_full _ rfl _ _ 160 rfl w.heap.size 110 i0 (.int .u64 0) 1 Tryz.underlying160 hi hz0 hz1 .i64 .i64 _ _ (a.length + b.length + 1) rfl rfl ?c1 ?c2 ?c3 ?c4 ?c5 ?_)
  case c1 => push_cast; rfl
  case c2 => push_cast; rfl
  case c3 => rw [hz2]; omega
  case c4 => unfold maxLen; omega
  case c5 => exact Nat.le_refl _
  intro w1 hown hgrow
  rw [madeU64] at hown
  have hb1 : Below w.heap.size w w1 := (Below.refl _ _).grown hgrow (Nat.le_refl _) (fun k hk => by cases hk)
  have ST := Lib.hid (TimesIn.start a b)
  have HO := Lib.hid hown
  have HB := Lib.hid hb1
  clear hown hgrow hb1
  go_wp2_with (fail)
  go_loopw [6] (fun t6 W => ∃ (i : Nat) (v : List Nat), i ≤ a.length ∧ t6 = .int .i64 i ∧ Hid (TimesIn a b v i 0 0) ∧ Hid (W.ownsRow w.heap.size 110 1 (.slice (some ⟨w.heap.size, 0, none⟩) (a.length + b.length + 1) (a.length + b.length + 1)) (a.length + b.length + 1) (u64s v)) ∧ Hid (Below w.heap.size w W)) (fun t6 _ => a.length - (intOf t6).toNat)
  case atStart => exact ⟨0, _, by omega, rfl, ST, HO, HB⟩
  case round =>
    clear ST HO HB
    obtain ⟨i, v, hi, rfl, HT, HO, HB⟩ := hrel
    by_cases hlt : i < a.length
    · obtain ⟨ad, rfl, ca0⟩ := ha.u64_at hlt
      have hx := wa i
      have HA := Lib.hid ca0
      clear ca0
      obtain ⟨wo, rfl⟩ : ∃ wo : World, wo = wr := ⟨_, rfl⟩
      generalize hxx : a.getD i 0 = x at *
      have HX := Lib.hid hxx
      clear hxx
      go_wp2_with (fail)
      go_loopw [7, 8, 9] (fun t7 t8 _ W => ∃ (j c : Nat) (v : List Nat), t8 = .int .i64 j ∧ t7 = .int .u64 c ∧ Hid (TimesIn a b v i j c) ∧ Hid (W.ownsRow w.heap.size 110 1 (.slice (some ⟨w.heap.size, 0, none⟩) (a.length + b.length + 1) (a.length + b.length + 1)) (a.length + b.length + 1) (u64s v)) ∧ Hid (Below w.heap.size w W)) (fun _ t8 _ _ => b.length + 2 - (intOf t8).toNat)
      case atStart => exact ⟨0, 0, v, rfl, rfl, HT, HO, HB⟩
      case round =>
        clear HT HO HB
        clear v
        obtain ⟨j, c, v, rfl, rfl, HT, HO, HB⟩ := hrel
        have hjl := HT.out.j_le
        have hcl := HT.out.c_lt
        have hvl := HT.out.words (i + j)
        have hlen := HT.out.len
        by_cases hin : j < b.length
        · obtain ⟨bd, rfl, cb0⟩ := (hb.below HB.out).u64_at hin
          have cA : wr.cell? (ad.add i) = some (.int .u64 (x : Nat)) := by rw [HB.out.cell (World.block_lt_of_cell? _ _ HA.out)]; exact HA.out
          have hy := wb j
          obtain ⟨hst, hfit, hlt2⟩ := HT.out.step wa hlt (.inl ⟨hin, rfl⟩) (mul_bound (wa i) (wb j))
          rw [HX.out] at hst hfit
          have cV : wr.cell? ⟨w.heap.size, i + j, none⟩ = some (.int .u64 (v.getD (i + j) 0 : Nat)) := by
            rw [HO.out.cellAt (i + j) (by omega)]; exact u64s_get hlt2
          have fV : wr.frozen? ⟨w.heap.size, i + j, none⟩ = false := HO.out.frozenAt _
          have hset := own_set HO.out HB.out (i + j) ((v.getD (i + j) 0 + c + x * b.getD j 0) % 4294967296)
          have hp2 : (x : Int) * (b.getD j 0 : Nat) = ((x * b.getD j 0 : Nat) : Int) := by push_cast; rfl
          have hpb := mul_bound hx (wb j)
          generalize hy2 : b.getD j 0 = y at *
          generalize hv2 : v.getD (i + j) 0 = z at *
          generalize x * y = m at *
          have HST := Lib.hid hst
          have HSET := Lib.hid hset
          have hB1 : decide ((j : Int) < b.length) = true := by simp; omega
          have p1 : (0 : Int) ≤ i := by omega
          have q1 : (i : Int) < a.length := by omega
          have p2 : (0 : Int) ≤ j := by omega
          have q2 : (j : Int) < b.length := by omega
          have wm : IntKind.u64.wrap (m : Int) = m := IntWalk.u64_in _ (by omega)
          have ws : IntKind.u64.wrap ((z : Int) + c + m) = (z : Int) + c + m := IntWalk.u64_in _ (by omega)
          have cA' := cA
          clear hst hset hy2 hv2
          go_wp2_with (fail)
          go_quiet (fail)
          clear wm ws
          go_wp2_with (fail)
          go_roundw
          case rel => exact ⟨j + 1, (z + c + m) / 4294967296, _, by go_num, by go_num, HST, Lib.hid (by simpa using (HSET.out _).1), Lib.hid (by simpa using (HSET.out _).2)⟩
          case measure => simp [intOf]; omega
        · have hB1 : decide ((j : Int) < b.length) = false := by simp; omega
          by_cases hc0 : 0 < c
          · obtain ⟨hst, hfit, hlt2⟩ := HT.out.step (m := 0) wa hlt (.inr ⟨by omega, hc0, rfl⟩) (by omega)
            have cV : wr.cell? ⟨w.heap.size, i + j, none⟩ = some (.int .u64 (v.getD (i + j) 0 : Nat)) := by
              rw [HO.out.cellAt (i + j) (by omega)]; exact u64s_get hlt2
            have fV : wr.frozen? ⟨w.heap.size, i + j, none⟩ = false := HO.out.frozenAt _
            have hset := own_set HO.out HB.out (i + j) ((v.getD (i + j) 0 + c + 0) % 4294967296)
            rw [Nat.add_zero] at hst hset hfit
            generalize hv2 : v.getD (i + j) 0 = z at *
            have HST := Lib.hid hst
            have HSET := Lib.hid hset
            have hB2 : decide ((0 : Int) < c) = true := by simp; omega
            clear hst hset hv2
            go_wp2_with (fail)
            go_roundw
            case rel =>
              have hs0 := HSET.out 0
              rw [show wr.drewN 0 = wr from rfl] at hs0
              exact ⟨j + 1, (z + c) / 4294967296, _, by go_num, by go_num, HST, Lib.hid (by simpa using hs0.1), Lib.hid (by simpa using hs0.2)⟩
            case measure => simp [intOf]; omega
          · obtain rfl : c = 0 := by omega
            have hrow := HT.out.row (by omega)
            have HR := Lib.hid hrow
            clear hrow
            go_wp2_with (fail)
            go_roundw
            case rel => exact ⟨i + 1, v, by omega, by go_num, HR, HO, HB⟩
            case measure => simp [intOf]; omega
    · obtain rfl : i = a.length := by omega
      have hd := HT.out.done
      have hlen := HT.out.len
      go_wp2_with (fail)
      go_ret
      exact ⟨w.heap.size, v, by rw [hlen]; rfl, HB.out, by rw [hlen]; exact Reads.of_own HO.out, hd.2, hd.1, hlen⟩

/-- is a above b? -/
def gtB (x y : Nat) : Bool := decide (y < x)

set_option maxHeartbeats 1000000 in
theorem greater_any (A B : Option Addr) (ca cb : Nat) (a b : List Nat) (w : World) (ha : Reads w 1 A a.length (u64s a)) (hb : Reads w 1 B b.length (u64s b)) (wa : Words a) (wb : Words b) (hla : a.length ≤ 1000) (hlb : b.length ≤ 1000) :
    Calls Tryz.prog 160 #[.slice A a.length ca, .slice B b.length cb] w (Ret w (.bool (gtB (val a) (val b)))) := by
  go_enter Tryz.func160, Tryz.ntmps160
  go_wp2_with (fail)
  all_goals
    go_loop [5, 6, 7] (fun t5 _ _ => ∃ i : Nat, i ≤ a.length + b.length ∧ t5 = .int .i64 ((i : Int) - 1) ∧ Hid (val (a.drop i) = val (b.drop i))) (fun t5 _ _ => (intOf t5 + 1).toNat)
    case atStart =>
      first
        | exact ⟨b.length, by omega, rfl, Lib.hid (by rw [List.drop_eq_nil_of_le (by omega), List.drop_eq_nil_of_le (by omega)])⟩
        | exact ⟨a.length, by omega, rfl, Lib.hid (by rw [List.drop_eq_nil_of_le (by omega), List.drop_eq_nil_of_le (by omega)])⟩
    case round =>
      obtain ⟨i, hi, rfl, HD⟩ := hrel
      by_cases h0 : i = 0
      · subst h0
        have hg : gtB (val a) (val b) = false := by
          have := HD.out
          rw [List.drop_zero, List.drop_zero] at this
          unfold gtB; rw [this]; simp
        have HGG := Lib.hid hg
        clear hg HD
        go_wp2_with (fail)
        go_ret
        exact ⟨by rw [HGG.out]; rfl, Below.refl _ _⟩
      · obtain ⟨k, rfl⟩ : ∃ k, i = k + 1 := ⟨i - 1, by omega⟩
        have hxw := wa k
        have hyw := wb k
        have hx0 : a.length ≤ k → a.getD k 0 = 0 := fun h => by rw [List.getD_eq_getElem?_getD, List.getElem?_eq_none h]; rfl
        have hy0 : b.length ≤ k → b.getD k 0 = 0 := fun h => by rw [List.getD_eq_getElem?_getD, List.getElem?_eq_none h]; rfl
        have hcmp := val_cmp a b k wa wb HD.out
        have h1 := drop_one a k
        have h2 := drop_one b k
        have hca : k < a.length → ∃ ad, A = some ad ∧ w.cell? (ad.add k) = some (.int .u64 (a.getD k 0 : Nat)) := fun h => ha.u64_at h
        have hcb : k < b.length → ∃ ad, B = some ad ∧ w.cell? (ad.add k) = some (.int .u64 (b.getD k 0 : Nat)) := fun h => hb.u64_at h
        generalize a.getD k 0 = x at *
        generalize b.getD k 0 = y at *
        have e1 : ((k + 1 : Nat) : Int) - 1 = k := by omega
        have HE : x = y → val (a.drop k) = val (b.drop k) := fun e => by rw [h1, h2, e, HD.out]
        have HG : x ≠ y → gtB (val a) (val b) = decide ((y : Int) < x) := fun e => by
          unfold gtB
          by_cases hl : y < x
          · rw [decide_eq_true ((hcmp e).2 hl), decide_eq_true (by omega)]
          · rw [decide_eq_false (fun h => hl ((hcmp e).1 h)), decide_eq_false (by omega)]
        have GN := Lib.hid HG
        have EN := Lib.hid HE
        clear h1 h2 hcmp HG HE
        by_cases pa : k < a.length
        · by_cases pb : k < b.length
          · obtain ⟨ad, rfl, ca0⟩ := hca pa
            obtain ⟨bd, rfl, cb0⟩ := hcb pb
            clear hca hcb hx0 hy0
            by_cases hxy : x = y
            · subst hxy
              clear GN
              go_wp2_with (fail)
              go_round
              case rel => exact ⟨k, by omega, by go_num, Lib.hid (EN.out rfl)⟩
              case measure => simp [intOf]
            · have hb1 : ((x : Int) != y) = true := by simp; omega
              have HGG := Lib.hid (GN.out hxy)
              clear EN GN
              go_wp2_with (fail)
              go_ret
              exact ⟨by rw [HGG.out]; simp, Below.refl _ _⟩
          · obtain ⟨ad, rfl, ca0⟩ := hca pa
            obtain rfl := hy0 (by omega)
            clear hca hcb hx0 hy0
            by_cases hxy : x = 0
            · subst hxy
              clear GN
              go_wp2_with (fail)
              go_round
              case rel => exact ⟨k, by omega, by go_num, Lib.hid (EN.out rfl)⟩
              case measure => simp [intOf]
            · have hb1 : ((x : Int) != 0) = true := by simp; omega
              have HGG := Lib.hid (GN.out hxy)
              clear EN GN
              go_wp2_with (fail)
              go_ret
              exact ⟨by rw [HGG.out]; simp, Below.refl _ _⟩
        · by_cases pb : k < b.length
          · obtain rfl := hx0 (by omega)
            obtain ⟨bd, rfl, cb0⟩ := hcb pb
            clear hca hcb hx0 hy0
            by_cases hxy : 0 = y
            · subst hxy
              clear GN
              go_wp2_with (fail)
              go_round
              case rel => exact ⟨k, by omega, by go_num, Lib.hid (EN.out rfl)⟩
              case measure => simp [intOf]
            · have hb1 : ((0 : Int) != y) = true := by simp; omega
              have HGG := Lib.hid (GN.out hxy)
              clear EN GN
              go_wp2_with (fail)
              go_ret
              exact ⟨by rw [HGG.out]; simp, Below.refl _ _⟩
          · obtain rfl := hx0 (by omega)
            obtain rfl := hy0 (by omega)
            clear hca hcb hx0 hy0
            clear GN
            go_wp2_with (fail)
            go_round
            case rel => exact ⟨k, by omega, by go_num, Lib.hid (EN.out rfl)⟩
            case measure => simp [intOf]
end Go.Proofs.YtjajoiahgfafgaaGreatDoor
end

/- Plain laws of the table: the first primes, their roots. No program in sight. -/
section
namespace Go.Proofs.YtjajoiahgfafgaaGreatDoor.Plain

def PRIMES : List Nat := [2, 3, 5, 7, 11, 13, 17, 19, 23, 29, 31, 37, 41, 43, 47, 53, 59, 61, 67, 71, 73, 79, 83, 89, 97, 101, 103, 107, 109, 113, 127, 131, 137, 139, 149, 151, 157, 163, 167, 173, 179, 181, 191, 193, 197, 199, 211, 223, 227, 229, 233, 239, 241, 251, 257, 263, 269, 271, 277, 281, 283, 293, 307, 311]
/-- the roots, in so many 1/2^32 -/
def R2 : List Nat := [6074000999, 7439101573, 9603838834, 11363415354, 14244795007, 15485724812, 17708603819, 18721328409]
def R3 : List Nat := [5411319704, 6194414737, 7344290767, 8215976869, 9551921755, 10098905585, 11043570340, 11460697813, 12214315672, 13195500289, 13492127166, 14311783875, 14809980276, 15046980094, 15499789991, 16133124468, 16720292289, 16907126662, 17444216262, 17784676812, 17950125167, 18429019306, 18734950876, 19175934170, 19734090066, 20001703533, 20132865992, 20390182855, 20516441075, 20764397895, 21588763473, 21813078375, 22141143685, 22248366392, 22769593852, 22871018771, 23170020180, 23461497531, 23651862830, 23931792517, 24205322401, 24295138891, 24734567280, 24820601251, 24990902297, 25075189284, 25569408389, 26045227120, 26200031510, 26276752392, 26428864332, 26653801653, 26727943347, 27092625994, 27306805839, 27517677555, 27725365998, 27793908591, 27997534228, 28131656200, 28198240250, 28526537963, 28973835255, 29099129074]

/-- one number more is looked at -/
def sieve1 (l : List Nat) (p : Nat) : List Nat := if l.all (fun q => p % q != 0) then l ++ [p] else l
/-- n numbers from 2 on -/
def sieve : Nat → List Nat
  | 0 => []
  | n + 1 => sieve1 (sieve n) (n + 2)
theorem sieve_310 : sieve 310 = PRIMES := by decide +kernel
theorem sieve_309 : (sieve 309).length = 63 := by decide +kernel
theorem sieve_le (n k : Nat) : (sieve n).length ≤ (sieve (n + k)).length := by
  induction k with
  | zero => exact Nat.le_refl _
  | succ k ih =>
    refine Nat.le_trans ih ?_
    show _ ≤ (sieve1 (sieve (n + k)) (n + k + 2)).length
    unfold sieve1
    split <;> simp
theorem sieve_lt {n : Nat} (h : n < 310) : (sieve n).length < 64 := by
  have := sieve_le n (309 - n)
  rw [show n + (309 - n) = 309 by omega, sieve_309] at this
  omega
theorem sieve_pos (n : Nat) : ∀ q ∈ sieve n, 0 < q ∧ q < n + 2 := by
  induction n with
  | zero => intro q h; cases h
  | succ n ih =>
    intro q h
    unfold sieve sieve1 at h
    split at h
    · rcases List.mem_append.1 h with h | h
      · have := ih q h; omega
      · simp at h; omega
    · have := ih q h; omega

/-- below the root, and one more isn't -/
def Root (p k r : Nat) : Prop := r ^ k ≤ 4294967296 ^ k * p ∧ 4294967296 ^ k * p < (r + 1) ^ k
instance (p k r : Nat) : Decidable (Root p k r) := inferInstanceAs (Decidable (_ ∧ _))

def h0L : List UInt32 := [H0.a, H0.b, H0.c, H0.d, H0.e, H0.f, H0.g, H0.h]
theorem roots2 : ∀ i, i < 8 → Root (PRIMES.getD i 0) 2 (R2.getD i 0) ∧ R2.getD i 0 < 137438953472 ∧ R2.getD i 0 % 4294967296 = (h0L.getD i 0).toNat := by decide +kernel
theorem roots3 : ∀ i, i < 64 → Root (PRIMES.getD i 0) 3 (R3.getD i 0) ∧ R3.getD i 0 < 137438953472 ∧ R3.getD i 0 % 4294967296 = (KK.getD i 0).toNat := by decide +kernel
theorem primes_lt : ∀ i, i < 64 → PRIMES.getD i 0 < 4294967296 := by decide +kernel
end Go.Proofs.YtjajoiahgfafgaaGreatDoor.Plain
end
