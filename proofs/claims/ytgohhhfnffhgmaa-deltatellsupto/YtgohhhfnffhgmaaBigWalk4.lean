/- hawserref04.turn, padded. -/
import Derived.Test.YtgohhhfnffhgmaaOwnM
import Derived.Test.YtgohhhfnffhgmaaSha1
import Derived.Test.YtgohhhfnffhgmaaPlainSha2
namespace Go.Proofs.Ytgohhhfnffhgmaa
open Go.RowKit Plain

theorem turn_eq (x : UInt32) (n m : Nat) (hn : 1 ≤ n) (hm : m + n = 32) (hm1 : 1 ≤ m) : Go.bits .or .u32 (V x / 2 ^ n) (V x * 2 ^ m % 4294967296) = V (rotr x (UInt32.ofNat n)) := by
  rw [V_shl x m (by omega), V_shr x n (by omega), V_or]
  unfold rotr
  have h1 : (32 : UInt32) - UInt32.ofNat n = UInt32.ofNat m := by
    apply UInt32.toNat_inj.1
    rw [UInt32.toNat_sub, UInt32.toNat_ofNat', UInt32.toNat_ofNat']
    simp
    omega
  rw [h1]

set_option maxRecDepth 100000 in
set_option maxHeartbeats 400000 in
theorem turn_gen (x : UInt32) (n m : Nat) (w : World) (hn : 1 ≤ n) (hm : m + n = 32) (hm1 : 1 ≤ m) :
    Calls Try.prog 45 #[.int .u32 (V x), .int .u32 (n : Int)] w fun e w' => e = .returned (.int .u32 (V (rotr x (UInt32.ofNat n)))) ∧ w' = w := by
  have hE := turn_eq x n m hn hm hm1
  have hx := V_lt x
  have hmn : (32 : Int) - n = m := by omega
  have b1 : 0 ≤ (m : Int) := by omega
  have b2 : (m : Int) < 32 := by omega
  have b3 : (n : Int) < 32 := by omega
  go_enter Try.func45, Try.ntmps45
  go_wp2_with (fail)
  go_ret
  exact ⟨rfl, rfl⟩
theorem turn_7 (x : UInt32) (w : World) : Calls Try.prog 45 #[.int .u32 (V x), .int .u32 7] w fun e w' => e = .returned (.int .u32 (V (rotr x 7))) ∧ w' = w := turn_gen x 7 25 w (by decide) (by decide) (by decide)
theorem turn_18 (x : UInt32) (w : World) : Calls Try.prog 45 #[.int .u32 (V x), .int .u32 18] w fun e w' => e = .returned (.int .u32 (V (rotr x 18))) ∧ w' = w := turn_gen x 18 14 w (by decide) (by decide) (by decide)
theorem turn_17 (x : UInt32) (w : World) : Calls Try.prog 45 #[.int .u32 (V x), .int .u32 17] w fun e w' => e = .returned (.int .u32 (V (rotr x 17))) ∧ w' = w := turn_gen x 17 15 w (by decide) (by decide) (by decide)
theorem turn_19 (x : UInt32) (w : World) : Calls Try.prog 45 #[.int .u32 (V x), .int .u32 19] w fun e w' => e = .returned (.int .u32 (V (rotr x 19))) ∧ w' = w := turn_gen x 19 13 w (by decide) (by decide) (by decide)
theorem turn_6 (x : UInt32) (w : World) : Calls Try.prog 45 #[.int .u32 (V x), .int .u32 6] w fun e w' => e = .returned (.int .u32 (V (rotr x 6))) ∧ w' = w := turn_gen x 6 26 w (by decide) (by decide) (by decide)
theorem turn_11 (x : UInt32) (w : World) : Calls Try.prog 45 #[.int .u32 (V x), .int .u32 11] w fun e w' => e = .returned (.int .u32 (V (rotr x 11))) ∧ w' = w := turn_gen x 11 21 w (by decide) (by decide) (by decide)
theorem turn_25 (x : UInt32) (w : World) : Calls Try.prog 45 #[.int .u32 (V x), .int .u32 25] w fun e w' => e = .returned (.int .u32 (V (rotr x 25))) ∧ w' = w := turn_gen x 25 7 w (by decide) (by decide) (by decide)
theorem turn_2 (x : UInt32) (w : World) : Calls Try.prog 45 #[.int .u32 (V x), .int .u32 2] w fun e w' => e = .returned (.int .u32 (V (rotr x 2))) ∧ w' = w := turn_gen x 2 30 w (by decide) (by decide) (by decide)
theorem turn_13 (x : UInt32) (w : World) : Calls Try.prog 45 #[.int .u32 (V x), .int .u32 13] w fun e w' => e = .returned (.int .u32 (V (rotr x 13))) ∧ w' = w := turn_gen x 13 19 w (by decide) (by decide) (by decide)
theorem turn_22 (x : UInt32) (w : World) : Calls Try.prog 45 #[.int .u32 (V x), .int .u32 22] w fun e w' => e = .returned (.int .u32 (V (rotr x 22))) ∧ w' = w := turn_gen x 22 10 w (by decide) (by decide) (by decide)

theorem info_byte8 : (Try.prog.info? 5).map (fun i => (i.zero, i.size, i.bytes)) = some (some (.int .u8 0), 1, 1) := by kernel_rfl

theorem bytesV_snoc (l : List UInt8) (n : Int) (c : UInt8) (h : n = c.toNat) : bytesV l ++ [.int .u8 n] = bytesV (l ++ [c]) := by subst h; simp [bytesV]
theorem noughts_go (n k : Nat) (hk : k ≤ noughts n) : ((n + 1 + k) % 64 = 56 ↔ k = noughts n) := by
  have hn : noughts n = (119 - n % 64) % 64 := rfl
  omega
theorem size8_take (n j : Nat) (hj : j < 8) : (size8 n).take (j + 1) = (size8 n).take j ++ [UInt8.ofNat (n * 8 / 2 ^ (56 - 8 * j))] := by
  rw [List.take_succ_eq_append_getElem (by rw [size8_length]; exact hj)]
  simp [size8]

set_option maxRecDepth 100000 in
set_option maxHeartbeats 1000000 in
theorem padded_any (s : List UInt8) (w : World) (hs : s.length ≤ 70368744177664) :
    Calls Try.prog 44 #[.string ⟨s.toArray⟩] w (Ret w (.string ⟨(s ++ padding s.length).toArray⟩)) := by
  obtain ⟨i0, hi, hz0, hz1, hz2⟩ := info_parts info_byte8
  have hn64 : noughts s.length < 64 := Nat.mod_lt _ (by omega)
  have hs8 := size8_length s.length
  go_enter Try.func44, Try.ntmps44
  go_wp2_with (fail)
  obtain ⟨cap, C, hconv, hown⟩ := conv_bytes_m (P := Try.prog) w 9 68 5 Try.underlying9 Try.underlying68 Try.underlying5 s (by unfold maxLen; omega)
  rw [hconv]
  have hb : Below w.heap.size w (w.alloc (.cells C 5 (cap, cap + 1))).drew := ((Below.refl _ _).alloc (Nat.le_refl _) _).drew
  generalize (w.alloc (.cells C 5 (cap, cap + 1))).drew = W at *
  generalize Value.slice (some ⟨w.heap.size, 0, none⟩) s.length cap = v at *
  clear hconv
  go_wp2_with (at_builtin; refine wpList_append_m rfl _ _ 68 rfl i0 (.int .u8 0) 1 Try.underlying68 hi hz0 hz1 hz2 rfl rfl (hown.alloc _) (.int .u8 128) ⟨W.heap.size, 0, none⟩ 1 rfl (by go_simp) rfl ?c3 ?c4 ?c5 ?_)
  case c3 => rw [bytesV_length]; unfold maxLen; omega
  case c4 => rw [bytesV_length]; omega
  case c5 => have := hb.size; simp; omega
  intro v1 w1 hown1 hg1
  have hb1 : Below w.heap.size w w1 := (hb.alloc hb.size _).grown hg1 (by have := hb.size; simp; omega) (fun k hk => (hown.lt k hk).1)
  rw [bytesV_snoc s 128 128 rfl] at hown1
  have HB1 := Lib.hid hb1
  clear hg1 hb1 hb hown
  go_wp2_with (fail)
  go_loopw [3] (fun t3 wr => ∃ k : Nat, k ≤ noughts s.length ∧ OwnM wr w.heap.size 5 t3 (bytesV (s ++ [128] ++ List.replicate k 0)) ∧ Hid (Below w.heap.size w wr)) (fun t3 _ => noughts s.length + s.length + 1 - (match t3 with | .slice _ n _ => n | _ => 0))
  case atStart => exact ⟨0, by omega, by simpa using hown1, HB1⟩
  case round =>
    clear HB1 hown1
    obtain ⟨k, hk, hown, HB⟩ := hrel
    have hN := noughts_go s.length k hk
    obtain ⟨A, c, rfl, hc, hcm⟩ := hown.form
    have hl : (bytesV (s ++ [128] ++ List.replicate k 0)).length = s.length + 1 + k := by simp [bytesV_length]; omega
    rw [hl] at hown hc ⊢
    have hsw := HB.out.size
    by_cases hlt : k < noughts s.length
    · have hB : ((((s.length : Int) + 1 + k) % 64) != 56) = true := by simp; omega
      have hsn : bytesV (s ++ [128] ++ List.replicate k 0) ++ [.int .u8 0] = bytesV (s ++ [128] ++ List.replicate (k + 1) 0) := by
        rw [bytesV_snoc _ 0 0 rfl, List.append_assoc, List.replicate_succ']
      clear hN
      generalize bytesV (s ++ [128] ++ List.replicate k 0) = xs at *
      have HSN := Lib.hid hsn
      have HL := Lib.hid hl
      clear hsn hl
      go_wp2_with (at_builtin; refine wpList_append_m rfl _ _ 68 rfl i0 (.int .u8 0) 1 Try.underlying68 hi hz0 hz1 hz2 rfl rfl (hown.alloc _) (.int .u8 0) ⟨wr.heap.size, 0, none⟩ 1 rfl (by go_simp) rfl ?d3 ?d4 ?d5 ?_)
      case d3 => rw [HL.out]; unfold maxLen; omega
      case d4 => rw [HL.out]; omega
      case d5 => simp; omega
      intro v2 w2 hown2 hg2
      have hb2 : Below w.heap.size w w2 := (HB.out.alloc hsw _).grown hg2 (by simp; omega) (fun k hk => (hown.lt k hk).1)
      rw [HSN.out] at hown2
      obtain ⟨A2, c2, rfl, hc2, hcm2⟩ := hown2.form
      have hl2 : (bytesV (s ++ [128] ++ List.replicate (k + 1) 0)).length = s.length + 1 + (k + 1) := by simp [bytesV_length]; omega
      rw [hl2] at hown2 ⊢
      have HB2 := Lib.hid hb2
      clear hg2 hb2 hc2
      go_wp2_with (fail)
      go_roundw
      case rel => exact ⟨k + 1, by omega, by simpa using hown2, HB2⟩
      case measure => simp; omega
    · obtain rfl : k = noughts s.length := by omega
      have hB : ((((s.length : Int) + 1 + (noughts s.length : Nat)) % 64) != 56) = false := by simp; omega
      clear hN
      have hpad : s ++ [128] ++ List.replicate (noughts s.length) 0 ++ size8 s.length = s ++ padding s.length := by simp [padding]
      have h8 := size8_take s.length
      generalize size8 s.length = z8 at *
      generalize s ++ [128] ++ List.replicate (noughts s.length) 0 = p at *
      generalize hnn : noughts s.length = nn at *
      have HP := Lib.hid hpad
      have H8 := Lib.hid h8
      have HNN := Lib.hid hnn
      have HL8 := Lib.hid hs8
      rw [bytesV_length] at hl
      have hpl : p.length ≤ 70368744177764 := by omega
      clear hpad h8 hnn hs8
      go_wp2_with (fail)
      go_loopw [3, 5] (fun t3 t5 wr => ∃ j : Nat, j ≤ 8 ∧ t5 = .int .i64 (7 - (j : Int)) ∧ OwnM wr w.heap.size 5 t3 (bytesV (p ++ z8.take j)) ∧ Hid (Below w.heap.size w wr)) (fun _ t5 _ => (intOf t5 + 1).toNat)
      case atStart => exact ⟨0, by omega, rfl, by simpa using hown, HB⟩
      case round =>
        clear HB hown
        obtain ⟨j, hj, rfl, hown, HB⟩ := hrel
        have hsw := HB.out.size
        by_cases hj8 : j < 8
        · have hl3 : (bytesV (p ++ z8.take j)).length ≤ 70368744177764 + 8 := by rw [bytesV_length, List.length_append, List.length_take]; omega
          have hsn := H8.out j hj8
          have hb0 : 0 ≤ (7 - (j : Int)) := by omega
          have hc8 : ((s.length : Int) * 8 / 2 ^ (8 * (7 - j))) % 256 = ((UInt8.ofNat (s.length * 8 / 2 ^ (56 - 8 * j))).toNat : Int) := by
            rw [show 8 * (7 - j) = 56 - 8 * j by omega]
            rw [UInt8.toNat_ofNat', Int.natCast_emod, Int.natCast_ediv, Int.natCast_mul, Int.natCast_pow]; rfl
          generalize hc0 : UInt8.ofNat (s.length * 8 / 2 ^ (56 - 8 * j)) = c0 at *
          have hsn2 : bytesV (p ++ z8.take j) ++ [.int .u8 (c0.toNat : Int)] = bytesV (p ++ z8.take (j + 1)) := by
            rw [bytesV_snoc _ _ c0 rfl, hsn, List.append_assoc]
          generalize bytesV (p ++ z8.take j) = xs at *
          have HSN := Lib.hid hsn2
          clear hsn hsn2 hc0
          go_wp2_with (at_builtin; refine wpList_append_m rfl _ _ 68 rfl i0 (.int .u8 0) 1 Try.underlying68 hi hz0 hz1 hz2 rfl rfl (hown.alloc _) (.int .u8 (c0.toNat : Int)) ⟨wr.heap.size, 0, none⟩ 1 rfl (by go_simp) rfl ?f3 ?f4 ?f5 ?_)
          case f3 => unfold maxLen; omega
          case f4 => omega
          case f5 => simp; omega
          intro v2 w2 hown2 hg2
          have hb2 : Below w.heap.size w w2 := (HB.out.alloc hsw _).grown hg2 (by simp; omega) (fun k hk => (hown.lt k hk).1)
          rw [HSN.out] at hown2
          have HB2 := Lib.hid hb2
          clear hg2 hb2
          go_wp2_with (fail)
          go_roundw
          case rel => exact ⟨j + 1, by omega, by go_num, by simpa using hown2, HB2⟩
          case measure => simp [intOf]; omega
        · obtain rfl : j = 8 := by omega
          rw [List.take_of_length_le (by rw [HL8.out]; omega), HP.out] at hown
          have hcv := hown.back (P := Try.prog) 68 9 Try.underlying68 Try.underlying5 Try.underlying9
          have HCV := Lib.hid hcv
          clear hcv
          go_wp2_with (fail)
          rw [HCV.out]
          go_wp2_with (fail)
          go_ret
          exact ⟨rfl, HB.out⟩
end Go.Proofs.Ytgohhhfnffhgmaa
