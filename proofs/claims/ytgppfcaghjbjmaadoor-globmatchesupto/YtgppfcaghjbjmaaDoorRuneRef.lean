/- The document's reader of a rune. -/
import Derived.Test.YtgppfcaghjbjmaaDoorLib
import Derived.Test.YtgppfcaghjbjmaaDoorPlainRune
import Derived.IntWalk
set_option linter.unusedVariables false
namespace Go.Proofs.YtgppfcaghjbjmaaDoor
open Go.RowKit Plain

theorem u8c (x : UInt8) : (0 : Int) ≤ x.toNat ∧ (x.toNat : Int) ≤ 255 := by have := x.toNat_lt; omega

set_option maxHeartbeats 2000000 in
set_option maxRecDepth 100000 in
theorem rune_2 (l : List UInt8) (k : Nat) (w : World) (hk : k < l.length) (h63 : l.length ≤ 4294967296) (hlo : 194 ≤ (l[k]).toNat) (hhi : (l[k]).toNat ≤ 223) :
    Calls Tryd.prog 72 #[.string ⟨l.toArray⟩, .int .i64 k] w (Ret w (.int .i64 (runeW (l.drop k)))) := by
  have HW := Lib.hid (runeW_2 l k hk hlo hhi)
  have HV := Lib.hid (vAt_le l k ((l[k]).toNat - 192) (by omega))
  obtain ⟨v0, hv0⟩ : ∃ v0, (l[k]).toNat - 192 = v0 := ⟨_, rfl⟩
  have hv0' : ((l[k]).toNat : Int) - 192 = (v0 : Int) := by omega
  rw [hv0] at HW HV
  have HV0 := Lib.hid hv0'
  clear hv0 hv0'
  generalize hb : l[k] = b at *
  have hg0 : (ByteArray.mk l.toArray)[k]'(by simpa [ByteArray.size] using hk) = b := by rw [ba_get]; exact hb
  have i0 : (0 : Int) ≤ k := by omega
  have i1 : (k : Int) < l.length := by omega
  have b1 : (194 : Int) ≤ b.toNat := by omega
  have b2 : (b.toNat : Int) ≤ 223 := by omega
  clear hb
  by_cases hlen : l.length < k + 2
  · have HR := Lib.hid (HW.out.1 hlen)
    have hd : decide ((l.length : Int) < (k : Int) + 2) = true := by simp; omega
    clear hlen
    go_enter Tryd.func72, Tryd.ntmps72
    go_wp2_with (fail)
    go_ret
    exact ⟨by rw [HR.out]; rfl, Below.refl _ _⟩
  · have hd : decide ((l.length : Int) < (k : Int) + 2) = false := by simp; omega
    go_enter Tryd.func72, Tryd.ntmps72
    go_wp2_with (fail)
    go_loopw [8, 9] (fun t8 t9 W => ∃ i : Nat, 1 ≤ i ∧ i ≤ 2 ∧ t9 = .int .i64 i ∧ t8 = .int .i64 (vAt l k v0 i) ∧ Hid (∀ j, 1 ≤ j → j < i → 128 ≤ (l.getD (k + j) 0).toNat ∧ (l.getD (k + j) 0).toNat ≤ 191) ∧ W = w) (fun _ t9 _ => 8 - (intOf t9).toNat)
    case atStart => exact ⟨1, by omega, by omega, rfl, by rw [vAt_one, ← HV0.out], Lib.hid (fun j h1 h2 => by omega), rfl⟩
    case round =>
      obtain ⟨i, hi1, hi2, rfl, rfl, HC, rfl⟩ := hrel
      have hvi := HV.out i hi1 (by omega)
      by_cases hin : i < 2
      · have hg : l.getD (k + i) 0 = l[k + i]'(by omega) := by simp [List.getD, show k + i < l.length by omega]
        have HG := Lib.hid hg
        have hn1 : ((k : Int) + i).toNat = k + i := by omega
        have hp1 : (0 : Int) ≤ (k : Int) + i := by omega
        have hp2 : (k : Int) + i < l.length := by omega
        have hw1 : IntKind.i64.wrap ((k : Int) + i) = (k : Int) + i := IntWalk.i64_in _ (by omega)
        clear hg
        generalize hcc : l[k + i]'(by omega) = c at *
        have hg1 : (ByteArray.mk l.toArray)[k + i]'(by simp [ByteArray.size]; omega) = c := by rw [ba_get]; exact hcc
        clear hcc
        have hcb := u8c c
        by_cases hc : 128 ≤ c.toNat ∧ c.toNat ≤ 191
        · obtain ⟨hc1, hc2⟩ := hc
          have hc1' : (128 : Int) ≤ c.toNat := by omega
          have hc2' : (c.toNat : Int) ≤ 191 := by omega
          have hs : ((vAt l k v0 i : Nat) : Int) * 64 + c.toNat - 128 = ((vAt l k v0 (i + 1) : Nat) : Int) := by rw [vAt_succ l k v0 i hi1, HG.out]; omega
          have HS := Lib.hid hs
          have HGV : Hid (vAt l k v0 (i + 1) = vAt l k v0 (i + 1)) := Lib.hid rfl
          clear hs HGV
          generalize vAt l k v0 i = v at *
          go_wp2_with (fail)
          go_roundw
          case rel => exact ⟨i + 1, by omega, by omega, by go_num, by rw [← HS.out], Lib.hid (fun j h1 h2 => by
            by_cases e : j = i
            · subst e; rw [HG.out]; exact ⟨hc1, hc2⟩
            · exact HC.out j h1 (by omega)), by first | trivial | rfl⟩
          case measure => simp [intOf]; omega
        · have hz := HW.out.2.1 i hi1 hin (by omega) (by rw [HG.out]; exact hc)
          have HZ := Lib.hid hz
          clear hz
          by_cases hc1 : c.toNat < 128
          · have hc1' : (c.toNat : Int) < 128 := by omega
            clear hc
            generalize vAt l k v0 i = v at *
            go_wp2_with (fail)
            go_ret
            exact ⟨by rw [HZ.out]; rfl, Below.refl _ _⟩
          · have hc1' : (128 : Int) ≤ c.toNat := by omega
            have hc2' : (191 : Int) < c.toNat := by omega
            clear hc
            generalize vAt l k v0 i = v at *
            go_wp2_with (fail)
            go_ret
            exact ⟨by rw [HZ.out]; rfl, Below.refl _ _⟩
      · obtain rfl : i = 2 := by omega
        have HZ := Lib.hid (HW.out.2.2 (by omega) HC.out)
        generalize vAt l k v0 2 = v at *
        have v63 : (v : Int) ≤ 16777215 := by omega
        by_cases q1 : v < 128
        · have HF := Lib.hid (show finW 2 128 v = 0 by unfold finW; rw [if_pos (by omega)])
          have q1' : (v : Int) < 128 := by omega
          go_wp2_with (fail)
          go_ret
          exact ⟨by rw [HZ.out, HF.out]; rfl, Below.refl _ _⟩
        · have q1' : (128 : Int) ≤ v := by omega
          by_cases q2 : 1114111 < v
          · have HF := Lib.hid (show finW 2 128 v = 0 by unfold finW; rw [if_pos (by omega)])
            have q2' : (1114111 : Int) < v := by omega
            go_wp2_with (fail)
            go_ret
            exact ⟨by rw [HZ.out, HF.out]; rfl, Below.refl _ _⟩
          · have q2' : (v : Int) ≤ 1114111 := by omega
            by_cases q3 : 55296 ≤ v
            · have q3' : (55296 : Int) ≤ v := by omega
              by_cases q4 : v ≤ 57343
              · have HF := Lib.hid (show finW 2 128 v = 0 by unfold finW; rw [if_pos (by omega)])
                have q4' : (v : Int) ≤ 57343 := by omega
                go_wp2_with (fail)
                go_ret
                exact ⟨by rw [HZ.out, HF.out]; rfl, Below.refl _ _⟩
              · have HF := Lib.hid (show finW 2 128 v = 2 by unfold finW; rw [if_neg (by omega)])
                have q4' : (57343 : Int) < v := by omega
                go_wp2_with (fail)
                go_ret
                exact ⟨by rw [HZ.out, HF.out]; rfl, Below.refl _ _⟩
            · have HF := Lib.hid (show finW 2 128 v = 2 by unfold finW; rw [if_neg (by omega)])
              have q3' : decide ((55296 : Int) ≤ (v : Int)) = false := by simp; omega
              clear q1 q2 q3
              go_wp2_with (fail)
              go_ret
              exact ⟨by rw [HZ.out, HF.out]; rfl, Below.refl _ _⟩

set_option maxHeartbeats 2000000 in
set_option maxRecDepth 100000 in
theorem rune_3 (l : List UInt8) (k : Nat) (w : World) (hk : k < l.length) (h63 : l.length ≤ 4294967296) (hlo : 224 ≤ (l[k]).toNat) (hhi : (l[k]).toNat ≤ 239) :
    Calls Tryd.prog 72 #[.string ⟨l.toArray⟩, .int .i64 k] w (Ret w (.int .i64 (runeW (l.drop k)))) := by
  have HW := Lib.hid (runeW_3 l k hk hlo hhi)
  have HV := Lib.hid (vAt_le l k ((l[k]).toNat - 224) (by omega))
  obtain ⟨v0, hv0⟩ : ∃ v0, (l[k]).toNat - 224 = v0 := ⟨_, rfl⟩
  have hv0' : ((l[k]).toNat : Int) - 224 = (v0 : Int) := by omega
  rw [hv0] at HW HV
  have HV0 := Lib.hid hv0'
  clear hv0 hv0'
  generalize hb : l[k] = b at *
  have hg0 : (ByteArray.mk l.toArray)[k]'(by simpa [ByteArray.size] using hk) = b := by rw [ba_get]; exact hb
  have i0 : (0 : Int) ≤ k := by omega
  have i1 : (k : Int) < l.length := by omega
  have b1 : (224 : Int) ≤ b.toNat := by omega
  have b2 : (b.toNat : Int) ≤ 239 := by omega
  clear hb
  by_cases hlen : l.length < k + 3
  · have HR := Lib.hid (HW.out.1 hlen)
    have hd : decide ((l.length : Int) < (k : Int) + 3) = true := by simp; omega
    clear hlen
    go_enter Tryd.func72, Tryd.ntmps72
    go_wp2_with (fail)
    go_ret
    exact ⟨by rw [HR.out]; rfl, Below.refl _ _⟩
  · have hd : decide ((l.length : Int) < (k : Int) + 3) = false := by simp; omega
    go_enter Tryd.func72, Tryd.ntmps72
    go_wp2_with (fail)
    go_loopw [8, 9] (fun t8 t9 W => ∃ i : Nat, 1 ≤ i ∧ i ≤ 3 ∧ t9 = .int .i64 i ∧ t8 = .int .i64 (vAt l k v0 i) ∧ Hid (∀ j, 1 ≤ j → j < i → 128 ≤ (l.getD (k + j) 0).toNat ∧ (l.getD (k + j) 0).toNat ≤ 191) ∧ W = w) (fun _ t9 _ => 8 - (intOf t9).toNat)
    case atStart => exact ⟨1, by omega, by omega, rfl, by rw [vAt_one, ← HV0.out], Lib.hid (fun j h1 h2 => by omega), rfl⟩
    case round =>
      obtain ⟨i, hi1, hi2, rfl, rfl, HC, rfl⟩ := hrel
      have hvi := HV.out i hi1 (by omega)
      by_cases hin : i < 3
      · have hg : l.getD (k + i) 0 = l[k + i]'(by omega) := by simp [List.getD, show k + i < l.length by omega]
        have HG := Lib.hid hg
        have hn1 : ((k : Int) + i).toNat = k + i := by omega
        have hp1 : (0 : Int) ≤ (k : Int) + i := by omega
        have hp2 : (k : Int) + i < l.length := by omega
        have hw1 : IntKind.i64.wrap ((k : Int) + i) = (k : Int) + i := IntWalk.i64_in _ (by omega)
        clear hg
        generalize hcc : l[k + i]'(by omega) = c at *
        have hg1 : (ByteArray.mk l.toArray)[k + i]'(by simp [ByteArray.size]; omega) = c := by rw [ba_get]; exact hcc
        clear hcc
        have hcb := u8c c
        by_cases hc : 128 ≤ c.toNat ∧ c.toNat ≤ 191
        · obtain ⟨hc1, hc2⟩ := hc
          have hc1' : (128 : Int) ≤ c.toNat := by omega
          have hc2' : (c.toNat : Int) ≤ 191 := by omega
          have hs : ((vAt l k v0 i : Nat) : Int) * 64 + c.toNat - 128 = ((vAt l k v0 (i + 1) : Nat) : Int) := by rw [vAt_succ l k v0 i hi1, HG.out]; omega
          have HS := Lib.hid hs
          have HGV : Hid (vAt l k v0 (i + 1) = vAt l k v0 (i + 1)) := Lib.hid rfl
          clear hs HGV
          generalize vAt l k v0 i = v at *
          go_wp2_with (fail)
          go_roundw
          case rel => exact ⟨i + 1, by omega, by omega, by go_num, by rw [← HS.out], Lib.hid (fun j h1 h2 => by
            by_cases e : j = i
            · subst e; rw [HG.out]; exact ⟨hc1, hc2⟩
            · exact HC.out j h1 (by omega)), by first | trivial | rfl⟩
          case measure => simp [intOf]; omega
        · have hz := HW.out.2.1 i hi1 hin (by omega) (by rw [HG.out]; exact hc)
          have HZ := Lib.hid hz
          clear hz
          by_cases hc1 : c.toNat < 128
          · have hc1' : (c.toNat : Int) < 128 := by omega
            clear hc
            generalize vAt l k v0 i = v at *
            go_wp2_with (fail)
            go_ret
            exact ⟨by rw [HZ.out]; rfl, Below.refl _ _⟩
          · have hc1' : (128 : Int) ≤ c.toNat := by omega
            have hc2' : (191 : Int) < c.toNat := by omega
            clear hc
            generalize vAt l k v0 i = v at *
            go_wp2_with (fail)
            go_ret
            exact ⟨by rw [HZ.out]; rfl, Below.refl _ _⟩
      · obtain rfl : i = 3 := by omega
        have HZ := Lib.hid (HW.out.2.2 (by omega) HC.out)
        generalize vAt l k v0 3 = v at *
        have v63 : (v : Int) ≤ 16777215 := by omega
        by_cases q1 : v < 2048
        · have HF := Lib.hid (show finW 3 2048 v = 0 by unfold finW; rw [if_pos (by omega)])
          have q1' : (v : Int) < 2048 := by omega
          go_wp2_with (fail)
          go_ret
          exact ⟨by rw [HZ.out, HF.out]; rfl, Below.refl _ _⟩
        · have q1' : (2048 : Int) ≤ v := by omega
          by_cases q2 : 1114111 < v
          · have HF := Lib.hid (show finW 3 2048 v = 0 by unfold finW; rw [if_pos (by omega)])
            have q2' : (1114111 : Int) < v := by omega
            go_wp2_with (fail)
            go_ret
            exact ⟨by rw [HZ.out, HF.out]; rfl, Below.refl _ _⟩
          · have q2' : (v : Int) ≤ 1114111 := by omega
            by_cases q3 : 55296 ≤ v
            · have q3' : (55296 : Int) ≤ v := by omega
              by_cases q4 : v ≤ 57343
              · have HF := Lib.hid (show finW 3 2048 v = 0 by unfold finW; rw [if_pos (by omega)])
                have q4' : (v : Int) ≤ 57343 := by omega
                go_wp2_with (fail)
                go_ret
                exact ⟨by rw [HZ.out, HF.out]; rfl, Below.refl _ _⟩
              · have HF := Lib.hid (show finW 3 2048 v = 3 by unfold finW; rw [if_neg (by omega)])
                have q4' : (57343 : Int) < v := by omega
                go_wp2_with (fail)
                go_ret
                exact ⟨by rw [HZ.out, HF.out]; rfl, Below.refl _ _⟩
            · have HF := Lib.hid (show finW 3 2048 v = 3 by unfold finW; rw [if_neg (by omega)])
              have q3' : decide ((55296 : Int) ≤ (v : Int)) = false := by simp; omega
              clear q1 q2 q3
              go_wp2_with (fail)
              go_ret
              exact ⟨by rw [HZ.out, HF.out]; rfl, Below.refl _ _⟩

set_option maxHeartbeats 2000000 in
set_option maxRecDepth 100000 in
theorem rune_4 (l : List UInt8) (k : Nat) (w : World) (hk : k < l.length) (h63 : l.length ≤ 4294967296) (hlo : 240 ≤ (l[k]).toNat) (hhi : (l[k]).toNat ≤ 244) :
    Calls Tryd.prog 72 #[.string ⟨l.toArray⟩, .int .i64 k] w (Ret w (.int .i64 (runeW (l.drop k)))) := by
  have HW := Lib.hid (runeW_4 l k hk hlo hhi)
  have HV := Lib.hid (vAt_le l k ((l[k]).toNat - 240) (by omega))
  obtain ⟨v0, hv0⟩ : ∃ v0, (l[k]).toNat - 240 = v0 := ⟨_, rfl⟩
  have hv0' : ((l[k]).toNat : Int) - 240 = (v0 : Int) := by omega
  rw [hv0] at HW HV
  have HV0 := Lib.hid hv0'
  clear hv0 hv0'
  generalize hb : l[k] = b at *
  have hg0 : (ByteArray.mk l.toArray)[k]'(by simpa [ByteArray.size] using hk) = b := by rw [ba_get]; exact hb
  have i0 : (0 : Int) ≤ k := by omega
  have i1 : (k : Int) < l.length := by omega
  have b1 : (240 : Int) ≤ b.toNat := by omega
  have b2 : (b.toNat : Int) ≤ 244 := by omega
  clear hb
  by_cases hlen : l.length < k + 4
  · have HR := Lib.hid (HW.out.1 hlen)
    have hd : decide ((l.length : Int) < (k : Int) + 4) = true := by simp; omega
    clear hlen
    go_enter Tryd.func72, Tryd.ntmps72
    go_wp2_with (fail)
    go_ret
    exact ⟨by rw [HR.out]; rfl, Below.refl _ _⟩
  · have hd : decide ((l.length : Int) < (k : Int) + 4) = false := by simp; omega
    go_enter Tryd.func72, Tryd.ntmps72
    go_wp2_with (fail)
    go_loopw [8, 9] (fun t8 t9 W => ∃ i : Nat, 1 ≤ i ∧ i ≤ 4 ∧ t9 = .int .i64 i ∧ t8 = .int .i64 (vAt l k v0 i) ∧ Hid (∀ j, 1 ≤ j → j < i → 128 ≤ (l.getD (k + j) 0).toNat ∧ (l.getD (k + j) 0).toNat ≤ 191) ∧ W = w) (fun _ t9 _ => 8 - (intOf t9).toNat)
    case atStart => exact ⟨1, by omega, by omega, rfl, by rw [vAt_one, ← HV0.out], Lib.hid (fun j h1 h2 => by omega), rfl⟩
    case round =>
      obtain ⟨i, hi1, hi2, rfl, rfl, HC, rfl⟩ := hrel
      have hvi := HV.out i hi1 (by omega)
      by_cases hin : i < 4
      · have hg : l.getD (k + i) 0 = l[k + i]'(by omega) := by simp [List.getD, show k + i < l.length by omega]
        have HG := Lib.hid hg
        have hn1 : ((k : Int) + i).toNat = k + i := by omega
        have hp1 : (0 : Int) ≤ (k : Int) + i := by omega
        have hp2 : (k : Int) + i < l.length := by omega
        have hw1 : IntKind.i64.wrap ((k : Int) + i) = (k : Int) + i := IntWalk.i64_in _ (by omega)
        clear hg
        generalize hcc : l[k + i]'(by omega) = c at *
        have hg1 : (ByteArray.mk l.toArray)[k + i]'(by simp [ByteArray.size]; omega) = c := by rw [ba_get]; exact hcc
        clear hcc
        have hcb := u8c c
        by_cases hc : 128 ≤ c.toNat ∧ c.toNat ≤ 191
        · obtain ⟨hc1, hc2⟩ := hc
          have hc1' : (128 : Int) ≤ c.toNat := by omega
          have hc2' : (c.toNat : Int) ≤ 191 := by omega
          have hs : ((vAt l k v0 i : Nat) : Int) * 64 + c.toNat - 128 = ((vAt l k v0 (i + 1) : Nat) : Int) := by rw [vAt_succ l k v0 i hi1, HG.out]; omega
          have HS := Lib.hid hs
          have HGV : Hid (vAt l k v0 (i + 1) = vAt l k v0 (i + 1)) := Lib.hid rfl
          clear hs HGV
          generalize vAt l k v0 i = v at *
          go_wp2_with (fail)
          go_roundw
          case rel => exact ⟨i + 1, by omega, by omega, by go_num, by rw [← HS.out], Lib.hid (fun j h1 h2 => by
            by_cases e : j = i
            · subst e; rw [HG.out]; exact ⟨hc1, hc2⟩
            · exact HC.out j h1 (by omega)), by first | trivial | rfl⟩
          case measure => simp [intOf]; omega
        · have hz := HW.out.2.1 i hi1 hin (by omega) (by rw [HG.out]; exact hc)
          have HZ := Lib.hid hz
          clear hz
          by_cases hc1 : c.toNat < 128
          · have hc1' : (c.toNat : Int) < 128 := by omega
            clear hc
            generalize vAt l k v0 i = v at *
            go_wp2_with (fail)
            go_ret
            exact ⟨by rw [HZ.out]; rfl, Below.refl _ _⟩
          · have hc1' : (128 : Int) ≤ c.toNat := by omega
            have hc2' : (191 : Int) < c.toNat := by omega
            clear hc
            generalize vAt l k v0 i = v at *
            go_wp2_with (fail)
            go_ret
            exact ⟨by rw [HZ.out]; rfl, Below.refl _ _⟩
      · obtain rfl : i = 4 := by omega
        have HZ := Lib.hid (HW.out.2.2 (by omega) HC.out)
        generalize vAt l k v0 4 = v at *
        have v63 : (v : Int) ≤ 16777215 := by omega
        by_cases q1 : v < 65536
        · have HF := Lib.hid (show finW 4 65536 v = 0 by unfold finW; rw [if_pos (by omega)])
          have q1' : (v : Int) < 65536 := by omega
          go_wp2_with (fail)
          go_ret
          exact ⟨by rw [HZ.out, HF.out]; rfl, Below.refl _ _⟩
        · have q1' : (65536 : Int) ≤ v := by omega
          by_cases q2 : 1114111 < v
          · have HF := Lib.hid (show finW 4 65536 v = 0 by unfold finW; rw [if_pos (by omega)])
            have q2' : (1114111 : Int) < v := by omega
            go_wp2_with (fail)
            go_ret
            exact ⟨by rw [HZ.out, HF.out]; rfl, Below.refl _ _⟩
          · have q2' : (v : Int) ≤ 1114111 := by omega
            by_cases q3 : 55296 ≤ v
            · have q3' : (55296 : Int) ≤ v := by omega
              by_cases q4 : v ≤ 57343
              · have HF := Lib.hid (show finW 4 65536 v = 0 by unfold finW; rw [if_pos (by omega)])
                have q4' : (v : Int) ≤ 57343 := by omega
                go_wp2_with (fail)
                go_ret
                exact ⟨by rw [HZ.out, HF.out]; rfl, Below.refl _ _⟩
              · have HF := Lib.hid (show finW 4 65536 v = 4 by unfold finW; rw [if_neg (by omega)])
                have q4' : (57343 : Int) < v := by omega
                go_wp2_with (fail)
                go_ret
                exact ⟨by rw [HZ.out, HF.out]; rfl, Below.refl _ _⟩
            · have HF := Lib.hid (show finW 4 65536 v = 4 by unfold finW; rw [if_neg (by omega)])
              have q3' : decide ((55296 : Int) ≤ (v : Int)) = false := by simp; omega
              clear q1 q2 q3
              go_wp2_with (fail)
              go_ret
              exact ⟨by rw [HZ.out, HF.out]; rfl, Below.refl _ _⟩

set_option maxRecDepth 100000 in
theorem rune_asc (l : List UInt8) (k : Nat) (w : World) (hk : k < l.length) (h63 : l.length ≤ 4294967296) (hhi : (l[k]).toNat < 128) :
    Calls Tryd.prog 72 #[.string ⟨l.toArray⟩, .int .i64 k] w (Ret w (.int .i64 (runeW (l.drop k)))) := by
  have HR := Lib.hid (runeW_asc l k (by simpa [List.getD, hk] using hhi))
  generalize hb : l[k] = b at *
  have hg0 : (ByteArray.mk l.toArray)[k]'(by simpa [ByteArray.size] using hk) = b := by rw [ba_get]; exact hb
  have i0 : (0 : Int) ≤ k := by omega
  have i1 : (k : Int) < l.length := by omega
  have b0 := u8c b
  have b2 : (b.toNat : Int) < 128 := by omega
  clear hb
  go_enter Tryd.func72, Tryd.ntmps72
  go_wp2_with (fail)
  go_ret
  exact ⟨by rw [HR.out]; rfl, Below.refl _ _⟩
set_option maxRecDepth 100000 in
theorem rune_bad1 (l : List UInt8) (k : Nat) (w : World) (hk : k < l.length) (h63 : l.length ≤ 4294967296) (hlo : 128 ≤ (l[k]).toNat) (hhi : (l[k]).toNat < 194) :
    Calls Tryd.prog 72 #[.string ⟨l.toArray⟩, .int .i64 k] w (Ret w (.int .i64 (runeW (l.drop k)))) := by
  have HR := Lib.hid (runeW_bad l k (by simp [List.getD, hk]; omega))
  generalize hb : l[k] = b at *
  have hg0 : (ByteArray.mk l.toArray)[k]'(by simpa [ByteArray.size] using hk) = b := by rw [ba_get]; exact hb
  have i0 : (0 : Int) ≤ k := by omega
  have i1 : (k : Int) < l.length := by omega
  have b1 : (128 : Int) ≤ b.toNat := by omega
  have b2 : (b.toNat : Int) < 194 := by omega
  clear hb
  go_enter Tryd.func72, Tryd.ntmps72
  go_wp2_with (fail)
  go_ret
  exact ⟨by rw [HR.out]; rfl, Below.refl _ _⟩
set_option maxRecDepth 100000 in
theorem rune_bad2 (l : List UInt8) (k : Nat) (w : World) (hk : k < l.length) (h63 : l.length ≤ 4294967296) (hlo : 245 ≤ (l[k]).toNat) :
    Calls Tryd.prog 72 #[.string ⟨l.toArray⟩, .int .i64 k] w (Ret w (.int .i64 (runeW (l.drop k)))) := by
  have HR := Lib.hid (runeW_bad l k (by simp [List.getD, hk]; omega))
  generalize hb : l[k] = b at *
  have hg0 : (ByteArray.mk l.toArray)[k]'(by simpa [ByteArray.size] using hk) = b := by rw [ba_get]; exact hb
  have i0 : (0 : Int) ≤ k := by omega
  have i1 : (k : Int) < l.length := by omega
  have b1 : (245 : Int) ≤ b.toNat := by omega
  have b2 := u8c b
  clear hb
  go_enter Tryd.func72, Tryd.ntmps72
  go_wp2_with (fail)
  go_ret
  exact ⟨by rw [HR.out]; rfl, Below.refl _ _⟩
theorem rune_any (l : List UInt8) (k : Nat) (w : World) (hk : k < l.length) (h63 : l.length ≤ 4294967296) :
    Calls Tryd.prog 72 #[.string ⟨l.toArray⟩, .int .i64 k] w (Ret w (.int .i64 (runeW (l.drop k)))) := by
  by_cases h1 : (l[k]).toNat < 128
  · exact rune_asc l k w hk h63 h1
  by_cases h2 : (l[k]).toNat < 194
  · exact rune_bad1 l k w hk h63 (by omega) h2
  by_cases h3 : (l[k]).toNat ≤ 223
  · exact rune_2 l k w hk h63 (by omega) h3
  by_cases h4 : (l[k]).toNat ≤ 239
  · exact rune_3 l k w hk h63 (by omega) h4
  by_cases h5 : (l[k]).toNat ≤ 244
  · exact rune_4 l k w hk h63 (by omega) h5
  exact rune_bad2 l k w hk h63 (by omega)

theorem Valid_ref (l : List UInt8) (w : World) (h63 : l.length ≤ 4294967296) :
    Calls Tryd.prog 51 #[.string ⟨l.toArray⟩] w (Ret w (.bool (Lib.validD l))) := by
  have hw0 := Lib.hid (Below.refl w.heap.size w)
  go_enter Tryd.func51, Tryd.ntmps51
  go_wp2_with (fail)
  go_loopw [3] (fun t3 W => ∃ k : Nat, k ≤ l.length ∧ t3 = .int .i64 k ∧ Hid (Below w.heap.size w W) ∧ Hid (Lib.validD l = Lib.validD (l.drop k))) (fun t3 _ => l.length - (intOf t3).toNat)
  case atStart => exact ⟨0, by omega, rfl, hw0, Lib.hid (by rw [List.drop_zero])⟩
  case round =>
    obtain ⟨k, hk, rfl, HB, HV⟩ := hrel
    have i0 : (0 : Int) ≤ k := by omega
    by_cases hlt : k < l.length
    · have i1 : (k : Int) < l.length := by omega
      have HC := Lib.hid (rune_any l k wr hlt h63)
      have hstep := HV.out
      rw [validD_rune l k hlt] at hstep
      have hle := runeW_le l k hlt
      generalize runeW (l.drop k) = n at *
      have HST := Lib.hid hstep
      clear hstep HV
      by_cases hn : n = 0
      · subst hn
        go_wp2_with (fail)
        refine HC.out.mono ?_
        rintro e w1 ⟨rfl, hw1⟩
        go_wp2_with (fail)
        go_ret
        exact ⟨by rw [HST.out]; rfl, HB.out.trans (hw1.mono HB.out.size)⟩
      · have i2 : ((n : Int) == 0) = false := by simp; omega
        go_wp2_with (fail)
        refine HC.out.mono ?_
        rintro e w1 ⟨rfl, hw1⟩
        have HB1 := Lib.hid (HB.out.trans (hw1.mono HB.out.size))
        clear hw1
        go_wp2_with (fail)
        go_roundw
        case rel => exact ⟨k + n, by omega, by go_num, HB1, Lib.hid (by rw [HST.out, if_neg hn])⟩
        case measure => simp [intOf]; omega
    · obtain rfl : k = l.length := by omega
      have hv := HV.out
      rw [List.drop_length] at hv
      have HV' := Lib.hid hv
      clear hv HV
      go_wp2_with (fail)
      go_ret
      exact ⟨by rw [HV'.out]; rfl, HB.out⟩
end Go.Proofs.YtgppfcaghjbjmaaDoor
