/- Texts joined: RuneRef, NameRef, GlobR1, GlobR2. -/
import Derived.Test.YtgppfcaghjbjmaaGreatDoorBLitBase1
import Derived.Test.YtgppfcaghjbjmaaGreatDoorBLitBase3
import Derived.IntWalk
import Derived.Test.YtgppfcaghjbjmaaGreatDoorBGlobLBase4
import Derived.Test.YtgppfcaghjbjmaaGreatDoorBGlobLBase1
set_option linter.unusedSimpArgs false
set_option linter.unusedVariables false

/- The document's reader of a rune. -/
section
set_option linter.unusedVariables false
namespace Go.Proofs.YtgppfcaghjbjmaaGreatDoor
open Go.RowKit Plain

theorem u8c (x : UInt8) : (0 : Int) ≤ x.toNat ∧ (x.toNat : Int) ≤ 255 := by have := x.toNat_lt; omega

set_option maxHeartbeats 2000000 in
set_option maxRecDepth 100000 in
theorem rune_2 (l : List UInt8) (k : Nat) (w : World) (hk : k < l.length) (h63 : l.length ≤ 4294967296) (hlo : 194 ≤ (l[k]).toNat) (hhi : (l[k]).toNat ≤ 223) :
    Calls Tryz.prog 45 #[.string ⟨l.toArray⟩, .int .i64 k] w (Ret w (.int .i64 (runeW (l.drop k)))) := by
  have HW := Lib.hid (runeW_2 l k hk hlo hhi)
  have HV := Lib.hid (vAt_le l k ((l[k]).toNat - 192) (by omega))
  obtain ⟨v0, hv0⟩ : ∃ v0, (l[k]).toNat - 192 = v0 := ⟨_, rfl⟩
  have hv0' : ((l[k]).toNat : Int) - 192 = (v0 : Int) := by omega
  rw [hv0] at HW HV
  have HV0 := Lib.hid hv0'
  clear hv0 hv0'
  generalize hb : l[k] = b at *
  have hg0 : (ByteArray.mk l.toArray)[k]'(by simpa [ByteArray.size] using hk) = b := by rw [ba_get]; exact hb
  have i0 : (0 : Int) ≤ k := by omega
  have i1 : (k : Int) < l.length := by omega
  have b1 : (194 : Int) ≤ b.toNat := by omega
  have b2 : (b.toNat : Int) ≤ 223 := by omega
  clear hb
  by_cases hlen : l.length < k + 2
  · have HR := Lib.hid (HW.out.1 hlen)
    have hd : decide ((l.length : Int) < (k : Int) + 2) = true := by simp; omega
    clear hlen
    go_enter Tryz.func45, Tryz.ntmps45
    go_wp2_with (fail)
    go_ret
    exact ⟨by rw [HR.out]; rfl, Below.refl _ _⟩
  · have hd : decide ((l.length : Int) < (k : Int) + 2) = false := by simp; omega
    go_enter Tryz.func45, Tryz.ntmps45
    go_wp2_with (fail)
    go_loopw [8, 9] (fun t8 t9 W => ∃ i : Nat, 1 ≤ i ∧ i ≤ 2 ∧ t9 = .int .i64 i ∧ t8 = .int .i64 (vAt l k v0 i) ∧ Hid (∀ j, 1 ≤ j → j < i → 128 ≤ (l.getD (k + j) 0).toNat ∧ (l.getD (k + j) 0).toNat ≤ 191) ∧ W = w) (fun _ t9 _ => 8 - (intOf t9).toNat)
    case atStart => exact ⟨1, by omega, by omega, rfl, by rw [vAt_one, ← HV0.out], Lib.hid (fun j h1 h2 => by omega), rfl⟩
    case round =>
      obtain ⟨i, hi1, hi2, rfl, rfl, HC, rfl⟩ := hrel
      have hvi := HV.out i hi1 (by omega)
      by_cases hin : i < 2
      · have hg : l.getD (k + i) 0 = l[k + i]'(by omega) := by simp [List.getD, show k + i < l.length by omega]
        have HG := Lib.hid hg
        have hn1 : ((k : Int) + i).toNat = k + i := by omega
        have hp1 : (0 : Int) ≤ (k : Int) + i := by omega
        have hp2 : (k : Int) + i < l.length := by omega
        have hw1 : IntKind.i64.wrap ((k : Int) + i) = (k : Int) + i := IntWalk.i64_in _ (by omega)
        clear hg
        generalize hcc : l[k + i]'(by omega) = c at *
        have hg1 : (ByteArray.mk l.toArray)[k + i]'(by simp [ByteArray.size]; omega) = c := by rw [ba_get]; exact hcc
        clear hcc
        have hcb := u8c c
        by_cases hc : 128 ≤ c.toNat ∧ c.toNat ≤ 191
        · obtain ⟨hc1, hc2⟩ := hc
          have hc1' : (128 : Int) ≤ c.toNat := by omega
          have hc2' : (c.toNat : Int) ≤ 191 := by omega
          have hs : ((vAt l k v0 i : Nat) : Int) * 64 + c.toNat - 128 = ((vAt l k v0 (i + 1) : Nat) : Int) := by rw [vAt_succ l k v0 i hi1, HG.out]; omega
          have HS := Lib.hid hs
          have HGV : Hid (vAt l k v0 (i + 1) = vAt l k v0 (i + 1)) := Lib.hid rfl
          clear hs HGV
          generalize vAt l k v0 i = v at *
          go_wp2_with (fail)
          go_roundw
          case rel => exact ⟨i + 1, by omega, by omega, by go_num, by rw [← HS.out], Lib.hid (fun j h1 h2 => by
            by_cases e : j = i
            · subst e; rw [HG.out]; exact ⟨hc1, hc2⟩
            · exact HC.out j h1 (by omega)), by first | trivial | rfl⟩
          case measure => simp [intOf]; omega
        · have hz := HW.out.2.1 i hi1 hin (by omega) (by rw [HG.out]; exact hc)
          have HZ := Lib.hid hz
          clear hz
          by_cases hc1 : c.toNat < 128
          · have hc1' : (c.toNat : Int) < 128 := by omega
            clear hc
            generalize vAt l k v0 i = v at *
            go_wp2_with (fail)
            go_ret
            exact ⟨by rw [HZ.out]; rfl, Below.refl _ _⟩
          · have hc1' : (128 : Int) ≤ c.toNat := by omega
            have hc2' : (191 : Int) < c.toNat := by omega
            clear hc
            generalize vAt l k v0 i = v at *
            go_wp2_with (fail)
            go_ret
            exact ⟨by rw [HZ.out]; rfl, Below.refl _ _⟩
      · obtain rfl : i = 2 := by omega
        have HZ := Lib.hid (HW.out.2.2 (by omega) HC.out)
        generalize vAt l k v0 2 = v at *
        have v63 : (v : Int) ≤ 16777215 := by omega
        by_cases q1 : v < 128
        · have HF := Lib.hid (show finW 2 128 v = 0 by unfold finW; rw [if_pos (by omega)])
          have q1' : (v : Int) < 128 := by omega
          go_wp2_with (fail)
          go_ret
          exact ⟨by rw [HZ.out, HF.out]; rfl, Below.refl _ _⟩
        · have q1' : (128 : Int) ≤ v := by omega
          by_cases q2 : 1114111 < v
          · have HF := Lib.hid (show finW 2 128 v = 0 by unfold finW; rw [if_pos (by omega)])
            have q2' : (1114111 : Int) < v := by omega
            go_wp2_with (fail)
            go_ret
            exact ⟨by rw [HZ.out, HF.out]; rfl, Below.refl _ _⟩
          · have q2' : (v : Int) ≤ 1114111 := by omega
            by_cases q3 : 55296 ≤ v
            · have q3' : (55296 : Int) ≤ v := by omega
              by_cases q4 : v ≤ 57343
              · have HF := Lib.hid (show finW 2 128 v = 0 by unfold finW; rw [if_pos (by omega)])
                have q4' : (v : Int) ≤ 57343 := by omega
                go_wp2_with (fail)
                go_ret
                exact ⟨by rw [HZ.out, HF.out]; rfl, Below.refl _ _⟩
              · have HF := Lib.hid (show finW 2 128 v = 2 by unfold finW; rw [if_neg (by omega)])
                have q4' : (57343 : Int) < v := by omega
                go_wp2_with (fail)
                go_ret
                exact ⟨by rw [HZ.out, HF.out]; rfl, Below.refl _ _⟩
            · have HF := Lib.hid (show finW 2 128 v = 2 by unfold finW; rw [if_neg (by omega)])
              have q3' : decide ((55296 : Int) ≤ (v : Int)) = false := by simp; omega
              clear q1 q2 q3
              go_wp2_with (fail)
              go_ret
              exact ⟨by rw [HZ.out, HF.out]; rfl, Below.refl _ _⟩

set_option maxHeartbeats 2000000 in
set_option maxRecDepth 100000 in
theorem rune_3 (l : List UInt8) (k : Nat) (w : World) (hk : k < l.length) (h63 : l.length ≤ 4294967296) (hlo : 224 ≤ (l[k]).toNat) (hhi : (l[k]).toNat ≤ 239) :
    Calls Tryz.prog 45 #[.string ⟨l.toArray⟩, .int .i64 k] w (Ret w (.int .i64 (runeW (l.drop k)))) := by
  have HW := Lib.hid (runeW_3 l k hk hlo hhi)
  have HV := Lib.hid (vAt_le l k ((l[k]).toNat - 224) (by omega))
  obtain ⟨v0, hv0⟩ : ∃ v0, (l[k]).toNat - 224 = v0 := ⟨_, rfl⟩
  have hv0' : ((l[k]).toNat : Int) - 224 = (v0 : Int) := by omega
  rw [hv0] at HW HV
  have HV0 := Lib.hid hv0'
  clear hv0 hv0'
  generalize hb : l[k] = b at *
  have hg0 : (ByteArray.mk l.toArray)[k]'(by simpa [ByteArray.size] using hk) = b := by rw [ba_get]; exact hb
  have i0 : (0 : Int) ≤ k := by omega
  have i1 : (k : Int) < l.length := by omega
  have b1 : (224 : Int) ≤ b.toNat := by omega
  have b2 : (b.toNat : Int) ≤ 239 := by omega
  clear hb
  by_cases hlen : l.length < k + 3
  · have HR := Lib.hid (HW.out.1 hlen)
    have hd : decide ((l.length : Int) < (k : Int) + 3) = true := by simp; omega
    clear hlen
    go_enter Tryz.func45, Tryz.ntmps45
    go_wp2_with (fail)
    go_ret
    exact ⟨by rw [HR.out]; rfl, Below.refl _ _⟩
  · have hd : decide ((l.length : Int) < (k : Int) + 3) = false := by simp; omega
    go_enter Tryz.func45, Tryz.ntmps45
    go_wp2_with (fail)
    go_loopw [8, 9] (fun t8 t9 W => ∃ i : Nat, 1 ≤ i ∧ i ≤ 3 ∧ t9 = .int .i64 i ∧ t8 = .int .i64 (vAt l k v0 i) ∧ Hid (∀ j, 1 ≤ j → j < i → 128 ≤ (l.getD (k + j) 0).toNat ∧ (l.getD (k + j) 0).toNat ≤ 191) ∧ W = w) (fun _ t9 _ => 8 - (intOf t9).toNat)
    case atStart => exact ⟨1, by omega, by omega, rfl, by rw [vAt_one, ← HV0.out], Lib.hid (fun j h1 h2 => by omega), rfl⟩
    case round =>
      obtain ⟨i, hi1, hi2, rfl, rfl, HC, rfl⟩ := hrel
      have hvi := HV.out i hi1 (by omega)
      by_cases hin : i < 3
      · have hg : l.getD (k + i) 0 = l[k + i]'(by omega) := by simp [List.getD, show k + i < l.length by omega]
        have HG := Lib.hid hg
        have hn1 : ((k : Int) + i).toNat = k + i := by omega
        have hp1 : (0 : Int) ≤ (k : Int) + i := by omega
        have hp2 : (k : Int) + i < l.length := by omega
        have hw1 : IntKind.i64.wrap ((k : Int) + i) = (k : Int) + i := IntWalk.i64_in _ (by omega)
        clear hg
        generalize hcc : l[k + i]'(by omega) = c at *
        have hg1 : (ByteArray.mk l.toArray)[k + i]'(by simp [ByteArray.size]; omega) = c := by rw [ba_get]; exact hcc
        clear hcc
        have hcb := u8c c
        by_cases hc : 128 ≤ c.toNat ∧ c.toNat ≤ 191
        · obtain ⟨hc1, hc2⟩ := hc
          have hc1' : (128 : Int) ≤ c.toNat := by omega
          have hc2' : (c.toNat : Int) ≤ 191 := by omega
          have hs : ((vAt l k v0 i : Nat) : Int) * 64 + c.toNat - 128 = ((vAt l k v0 (i + 1) : Nat) : Int) := by rw [vAt_succ l k v0 i hi1, HG.out]; omega
          have HS := Lib.hid hs
          have HGV : Hid (vAt l k v0 (i + 1) = vAt l k v0 (i + 1)) := Lib.hid rfl
          clear hs HGV
          generalize vAt l k v0 i = v at *
          go_wp2_with (fail)
          go_roundw
          case rel => exact ⟨i + 1, by omega, by omega, by go_num, by rw [← HS.out], Lib.hid (fun j h1 h2 => by
            by_cases e : j = i
            · subst e; rw [HG.out]; exact ⟨hc1, hc2⟩
            · exact HC.out j h1 (by omega)), by first | trivial | rfl⟩
          case measure => simp [intOf]; omega
        · have hz := HW.out.2.1 i hi1 hin (by omega) (by rw [HG.out]; exact hc)
          have HZ := Lib.hid hz
          clear hz
          by_cases hc1 : c.toNat < 128
          · have hc1' : (c.toNat : Int) < 128 := by omega
            clear hc
            generalize vAt l k v0 i = v at *
            go_wp2_with (fail)
            go_ret
            exact ⟨by rw [HZ.out]; rfl, Below.refl _ _⟩
          · have hc1' : (128 : Int) ≤ c.toNat := by omega
            have hc2' : (191 : Int) < c.toNat := by omega
            clear hc
            generalize vAt l k v0 i = v at *
            go_wp2_with (fail)
            go_ret
            exact ⟨by rw [HZ.out]; rfl, Below.refl _ _⟩
      · obtain rfl : i = 3 := by omega
        have HZ := Lib.hid (HW.out.2.2 (by omega) HC.out)
        generalize vAt l k v0 3 = v at *
        have v63 : (v : Int) ≤ 16777215 := by omega
        by_cases q1 : v < 2048
        · have HF := Lib.hid (show finW 3 2048 v = 0 by unfold finW; rw [if_pos (by omega)])
          have q1' : (v : Int) < 2048 := by omega
          go_wp2_with (fail)
          go_ret
          exact ⟨by rw [HZ.out, HF.out]; rfl, Below.refl _ _⟩
        · have q1' : (2048 : Int) ≤ v := by omega
          by_cases q2 : 1114111 < v
          · have HF := Lib.hid (show finW 3 2048 v = 0 by unfold finW; rw [if_pos (by omega)])
            have q2' : (1114111 : Int) < v := by omega
            go_wp2_with (fail)
            go_ret
            exact ⟨by rw [HZ.out, HF.out]; rfl, Below.refl _ _⟩
          · have q2' : (v : Int) ≤ 1114111 := by omega
            by_cases q3 : 55296 ≤ v
            · have q3' : (55296 : Int) ≤ v := by omega
              by_cases q4 : v ≤ 57343
              · have HF := Lib.hid (show finW 3 2048 v = 0 by unfold finW; rw [if_pos (by omega)])
                have q4' : (v : Int) ≤ 57343 := by omega
                go_wp2_with (fail)
                go_ret
                exact ⟨by rw [HZ.out, HF.out]; rfl, Below.refl _ _⟩
              · have HF := Lib.hid (show finW 3 2048 v = 3 by unfold finW; rw [if_neg (by omega)])
                have q4' : (57343 : Int) < v := by omega
                go_wp2_with (fail)
                go_ret
                exact ⟨by rw [HZ.out, HF.out]; rfl, Below.refl _ _⟩
            · have HF := Lib.hid (show finW 3 2048 v = 3 by unfold finW; rw [if_neg (by omega)])
              have q3' : decide ((55296 : Int) ≤ (v : Int)) = false := by simp; omega
              clear q1 q2 q3
              go_wp2_with (fail)
              go_ret
              exact ⟨by rw [HZ.out, HF.out]; rfl, Below.refl _ _⟩

set_option maxHeartbeats 2000000 in
set_option maxRecDepth 100000 in
theorem rune_4 (l : List UInt8) (k : Nat) (w : World) (hk : k < l.length) (h63 : l.length ≤ 4294967296) (hlo : 240 ≤ (l[k]).toNat) (hhi : (l[k]).toNat ≤ 244) :
    Calls Tryz.prog 45 #[.string ⟨l.toArray⟩, .int .i64 k] w (Ret w (.int .i64 (runeW (l.drop k)))) := by
  have HW := Lib.hid (runeW_4 l k hk hlo hhi)
  have HV := Lib.hid (vAt_le l k ((l[k]).toNat - 240) (by omega))
  obtain ⟨v0, hv0⟩ : ∃ v0, (l[k]).toNat - 240 = v0 := ⟨_, rfl⟩
  have hv0' : ((l[k]).toNat : Int) - 240 = (v0 : Int) := by omega
  rw [hv0] at HW HV
  have HV0 := Lib.hid hv0'
  clear hv0 hv0'
  generalize hb : l[k] = b at *
  have hg0 : (ByteArray.mk l.toArray)[k]'(by simpa [ByteArray.size] using hk) = b := by rw [ba_get]; exact hb
  have i0 : (0 : Int) ≤ k := by omega
  have i1 : (k : Int) < l.length := by omega
  have b1 : (240 : Int) ≤ b.toNat := by omega
  have b2 : (b.toNat : Int) ≤ 244 := by omega
  clear hb
  by_cases hlen : l.length < k + 4
  · have HR := Lib.hid (HW.out.1 hlen)
    have hd : decide ((l.length : Int) < (k : Int) + 4) = true := by simp; omega
    clear hlen
    go_enter Tryz.func45, Tryz.ntmps45
    go_wp2_with (fail)
    go_ret
    exact ⟨by rw [HR.out]; rfl, Below.refl _ _⟩
  · have hd : decide ((l.length : Int) < (k : Int) + 4) = false := by simp; omega
    go_enter Tryz.func45, Tryz.ntmps45
    go_wp2_with (fail)
    go_loopw [8, 9] (fun t8 t9 W => ∃ i : Nat, 1 ≤ i ∧ i ≤ 4 ∧ t9 = .int .i64 i ∧ t8 = .int .i64 (vAt l k v0 i) ∧ Hid (∀ j, 1 ≤ j → j < i → 128 ≤ (l.getD (k + j) 0).toNat ∧ (l.getD (k + j) 0).toNat ≤ 191) ∧ W = w) (fun _ t9 _ => 8 - (intOf t9).toNat)
    case atStart => exact ⟨1, by omega, by omega, rfl, by rw [vAt_one, ← HV0.out], Lib.hid (fun j h1 h2 => by omega), rfl⟩
    case round =>
      obtain ⟨i, hi1, hi2, rfl, rfl, HC, rfl⟩ := hrel
      have hvi := HV.out i hi1 (by omega)
      by_cases hin : i < 4
      · have hg : l.getD (k + i) 0 = l[k + i]'(by omega) := by simp [List.getD, show k + i < l.length by omega]
        have HG := Lib.hid hg
        have hn1 : ((k : Int) + i).toNat = k + i := by omega
        have hp1 : (0 : Int) ≤ (k : Int) + i := by omega
        have hp2 : (k : Int) + i < l.length := by omega
        have hw1 : IntKind.i64.wrap ((k : Int) + i) = (k : Int) + i := IntWalk.i64_in _ (by omega)
        clear hg
        generalize hcc : l[k + i]'(by omega) = c at *
        have hg1 : (ByteArray.mk l.toArray)[k + i]'(by simp [ByteArray.size]; omega) = c := by rw [ba_get]; exact hcc
        clear hcc
        have hcb := u8c c
        by_cases hc : 128 ≤ c.toNat ∧ c.toNat ≤ 191
        · obtain ⟨hc1, hc2⟩ := hc
          have hc1' : (128 : Int) ≤ c.toNat := by omega
          have hc2' : (c.toNat : Int) ≤ 191 := by omega
          have hs : ((vAt l k v0 i : Nat) : Int) * 64 + c.toNat - 128 = ((vAt l k v0 (i + 1) : Nat) : Int) := by rw [vAt_succ l k v0 i hi1, HG.out]; omega
          have HS := Lib.hid hs
          have HGV : Hid (vAt l k v0 (i + 1) = vAt l k v0 (i + 1)) := Lib.hid rfl
          clear hs HGV
          generalize vAt l k v0 i = v at *
          go_wp2_with (fail)
          go_roundw
          case rel => exact ⟨i + 1, by omega, by omega, by go_num, by rw [← HS.out], Lib.hid (fun j h1 h2 => by
            by_cases e : j = i
            · subst e; rw [HG.out]; exact ⟨hc1, hc2⟩
            · exact HC.out j h1 (by omega)), by first | trivial | rfl⟩
          case measure => simp [intOf]; omega
        · have hz := HW.out.2.1 i hi1 hin (by omega) (by rw [HG.out]; exact hc)
          have HZ := Lib.hid hz
          clear hz
          by_cases hc1 : c.toNat < 128
          · have hc1' : (c.toNat : Int) < 128 := by omega
            clear hc
            generalize vAt l k v0 i = v at *
            go_wp2_with (fail)
            go_ret
            exact ⟨by rw [HZ.out]; rfl, Below.refl _ _⟩
          · have hc1' : (128 : Int) ≤ c.toNat := by omega
            have hc2' : (191 : Int) < c.toNat := by omega
            clear hc
            generalize vAt l k v0 i = v at *
            go_wp2_with (fail)
            go_ret
            exact ⟨by rw [HZ.out]; rfl, Below.refl _ _⟩
      · obtain rfl : i = 4 := by omega
        have HZ := Lib.hid (HW.out.2.2 (by omega) HC.out)
        generalize vAt l k v0 4 = v at *
        have v63 : (v : Int) ≤ 16777215 := by omega
        by_cases q1 : v < 65536
        · have HF := Lib.hid (show finW 4 65536 v = 0 by unfold finW; rw [if_pos (by omega)])
          have q1' : (v : Int) < 65536 := by omega
          go_wp2_with (fail)
          go_ret
          exact ⟨by rw [HZ.out, HF.out]; rfl, Below.refl _ _⟩
        · have q1' : (65536 : Int) ≤ v := by omega
          by_cases q2 : 1114111 < v
          · have HF := Lib.hid (show finW 4 65536 v = 0 by unfold finW; rw [if_pos (by omega)])
            have q2' : (1114111 : Int) < v := by omega
            go_wp2_with (fail)
            go_ret
            exact ⟨by rw [HZ.out, HF.out]; rfl, Below.refl _ _⟩
          · have q2' : (v : Int) ≤ 1114111 := by omega
            by_cases q3 : 55296 ≤ v
            · have q3' : (55296 : Int) ≤ v := by omega
              by_cases q4 : v ≤ 57343
              · have HF := Lib.hid (show finW 4 65536 v = 0 by unfold finW; rw [if_pos (by omega)])
                have q4' : (v : Int) ≤ 57343 := by omega
                go_wp2_with (fail)
                go_ret
                exact ⟨by rw [HZ.out, HF.out]; rfl, Below.refl _ _⟩
              · have HF := Lib.hid (show finW 4 65536 v = 4 by unfold finW; rw [if_neg (by omega)])
                have q4' : (57343 : Int) < v := by omega
                go_wp2_with (fail)
                go_ret
                exact ⟨by rw [HZ.out, HF.out]; rfl, Below.refl _ _⟩
            · have HF := Lib.hid (show finW 4 65536 v = 4 by unfold finW; rw [if_neg (by omega)])
              have q3' : decide ((55296 : Int) ≤ (v : Int)) = false := by simp; omega
              clear q1 q2 q3
              go_wp2_with (fail)
              go_ret
              exact ⟨by rw [HZ.out, HF.out]; rfl, Below.refl _ _⟩

set_option maxRecDepth 100000 in
theorem rune_asc (l : List UInt8) (k : Nat) (w : World) (hk : k < l.length) (h63 : l.length ≤ 4294967296) (hhi : (l[k]).toNat < 128) :
    Calls Tryz.prog 45 #[.string ⟨l.toArray⟩, .int .i64 k] w (Ret w (.int .i64 (runeW (l.drop k)))) := by
  have HR := Lib.hid (runeW_asc l k (by simpa [List.getD, hk] using hhi))
  generalize hb : l[k] = b at *
  have hg0 : (ByteArray.mk l.toArray)[k]'(by simpa [ByteArray.size] using hk) = b := by rw [ba_get]; exact hb
  have i0 : (0 : Int) ≤ k := by omega
  have i1 : (k : Int) < l.length := by omega
  have b0 := u8c b
  have b2 : (b.toNat : Int) < 128 := by omega
  clear hb
  go_enter Tryz.func45, Tryz.ntmps45
  go_wp2_with (fail)
  go_ret
  exact ⟨by rw [HR.out]; rfl, Below.refl _ _⟩
set_option maxRecDepth 100000 in
theorem rune_bad1 (l : List UInt8) (k : Nat) (w : World) (hk : k < l.length) (h63 : l.length ≤ 4294967296) (hlo : 128 ≤ (l[k]).toNat) (hhi : (l[k]).toNat < 194) :
    Calls Tryz.prog 45 #[.string ⟨l.toArray⟩, .int .i64 k] w (Ret w (.int .i64 (runeW (l.drop k)))) := by
  have HR := Lib.hid (runeW_bad l k (by simp [List.getD, hk]; omega))
  generalize hb : l[k] = b at *
  have hg0 : (ByteArray.mk l.toArray)[k]'(by simpa [ByteArray.size] using hk) = b := by rw [ba_get]; exact hb
  have i0 : (0 : Int) ≤ k := by omega
  have i1 : (k : Int) < l.length := by omega
  have b1 : (128 : Int) ≤ b.toNat := by omega
  have b2 : (b.toNat : Int) < 194 := by omega
  clear hb
  go_enter Tryz.func45, Tryz.ntmps45
  go_wp2_with (fail)
  go_ret
  exact ⟨by rw [HR.out]; rfl, Below.refl _ _⟩
set_option maxRecDepth 100000 in
theorem rune_bad2 (l : List UInt8) (k : Nat) (w : World) (hk : k < l.length) (h63 : l.length ≤ 4294967296) (hlo : 245 ≤ (l[k]).toNat) :
    Calls Tryz.prog 45 #[.string ⟨l.toArray⟩, .int .i64 k] w (Ret w (.int .i64 (runeW (l.drop k)))) := by
  have HR := Lib.hid (runeW_bad l k (by simp [List.getD, hk]; omega))
  generalize hb : l[k] = b at *
  have hg0 : (ByteArray.mk l.toArray)[k]'(by simpa [ByteArray.size] using hk) = b := by rw [ba_get]; exact hb
  have i0 : (0 : Int) ≤ k := by omega
  have i1 : (k : Int) < l.length := by omega
  have b1 : (245 : Int) ≤ b.toNat := by omega
  have b2 := u8c b
  clear hb
  go_enter Tryz.func45, Tryz.ntmps45
  go_wp2_with (fail)
  go_ret
  exact ⟨by rw [HR.out]; rfl, Below.refl _ _⟩
theorem rune_any (l : List UInt8) (k : Nat) (w : World) (hk : k < l.length) (h63 : l.length ≤ 4294967296) :
    Calls Tryz.prog 45 #[.string ⟨l.toArray⟩, .int .i64 k] w (Ret w (.int .i64 (runeW (l.drop k)))) := by
  by_cases h1 : (l[k]).toNat < 128
  · exact rune_asc l k w hk h63 h1
  by_cases h2 : (l[k]).toNat < 194
  · exact rune_bad1 l k w hk h63 (by omega) h2
  by_cases h3 : (l[k]).toNat ≤ 223
  · exact rune_2 l k w hk h63 (by omega) h3
  by_cases h4 : (l[k]).toNat ≤ 239
  · exact rune_3 l k w hk h63 (by omega) h4
  by_cases h5 : (l[k]).toNat ≤ 244
  · exact rune_4 l k w hk h63 (by omega) h5
  exact rune_bad2 l k w hk h63 (by omega)

theorem Valid_ref (l : List UInt8) (w : World) (h63 : l.length ≤ 4294967296) :
    Calls Tryz.prog 31 #[.string ⟨l.toArray⟩] w (Ret w (.bool (Lib.validD l))) := by
  have hw0 := Lib.hid (Below.refl w.heap.size w)
  go_enter Tryz.func31, Tryz.ntmps31
  go_wp2_with (fail)
  go_loopw [3] (fun t3 W => ∃ k : Nat, k ≤ l.length ∧ t3 = .int .i64 k ∧ Hid (Below w.heap.size w W) ∧ Hid (Lib.validD l = Lib.validD (l.drop k))) (fun t3 _ => l.length - (intOf t3).toNat)
  case atStart => exact ⟨0, by omega, rfl, hw0, Lib.hid (by rw [List.drop_zero])⟩
  case round =>
    obtain ⟨k, hk, rfl, HB, HV⟩ := hrel
    have i0 : (0 : Int) ≤ k := by omega
    by_cases hlt : k < l.length
    · have i1 : (k : Int) < l.length := by omega
      have HC := Lib.hid (rune_any l k wr hlt h63)
      have hstep := HV.out
      rw [validD_rune l k hlt] at hstep
      have hle := runeW_le l k hlt
      generalize runeW (l.drop k) = n at *
      have HST := Lib.hid hstep
      clear hstep HV
      by_cases hn : n = 0
      · subst hn
        go_wp2_with (fail)
        refine HC.out.mono ?_
        rintro e w1 ⟨rfl, hw1⟩
        go_wp2_with (fail)
        go_ret
        exact ⟨by rw [HST.out]; rfl, HB.out.trans (hw1.mono HB.out.size)⟩
      · have i2 : ((n : Int) == 0) = false := by simp; omega
        go_wp2_with (fail)
        refine HC.out.mono ?_
        rintro e w1 ⟨rfl, hw1⟩
        have HB1 := Lib.hid (HB.out.trans (hw1.mono HB.out.size))
        clear hw1
        go_wp2_with (fail)
        go_roundw
        case rel => exact ⟨k + n, by omega, by go_num, HB1, Lib.hid (by rw [HST.out, if_neg hn])⟩
        case measure => simp [intOf]; omega
    · obtain rfl : k = l.length := by omega
      have hv := HV.out
      rw [List.drop_length] at hv
      have HV' := Lib.hid hv
      clear hv HV
      go_wp2_with (fail)
      go_ret
      exact ⟨by rw [HV'.out]; rfl, HB.out⟩
end Go.Proofs.YtgppfcaghjbjmaaGreatDoor
end

/- hawserref01: Name, Parts, Path. -/
section
namespace Go.Proofs.YtgppfcaghjbjmaaGreatDoor
open Go.RowKit Plain

theorem anyM_take (s : List UInt8) (k : Nat) (h : k < s.length) : anyM (s.take (k + 1)) = (anyM (s.take k) || s[k] == 47 || s[k] == 0) := by
  unfold anyM
  rw [List.take_succ_eq_append_getElem h]
  simp only [List.contains_append, List.contains_cons, List.contains_nil, Bool.or_false]
  rw [show ((47 : UInt8) == s[k]) = (s[k] == 47) by rw [Bool.eq_iff_iff]; simp only [beq_iff_eq]; exact eq_comm, show ((0 : UInt8) == s[k]) = (s[k] == 0) by rw [Bool.eq_iff_iff]; simp only [beq_iff_eq]; exact eq_comm]
  cases (s.take k).contains 47 <;> cases (s.take k).contains 0 <;> cases s[k] == 47 <;> cases s[k] == 0 <;> rfl
theorem anyM_le (s : List UInt8) (k : Nat) (h : anyM (s.take k) = true) : anyM s = true := by
  unfold anyM at h ⊢
  simp only [Bool.or_eq_true, List.contains_iff_mem] at h ⊢
  rcases h with h | h
  · exact .inl (List.mem_of_mem_take h)
  · exact .inr (List.mem_of_mem_take h)

theorem mem_sum : ∀ {l : List (List UInt8)} {x : List UInt8}, x ∈ l → x.length ≤ (l.map List.length).sum
  | [], _, h => by cases h
  | y :: l, x, h => by
    rcases List.mem_cons.1 h with rfl | h
    · simp
    · have := mem_sum h; simp; omega
set_option maxRecDepth 100000 in
set_option maxHeartbeats 2000000 in
theorem Name_ref (s : List UInt8) (w : World) (hs : s.length ≤ 9223372036854775806) :
    Calls Tryz.prog 21 #[.string ⟨s.toArray⟩] w (Ret w (.bool (nameOK s))) := by
  rw [nameOK_any]
  by_cases h1 : s.length ≤ 64
  · have hc1 : decide ((64 : Int) < s.length) = false := by simp; omega
    have hc1' : decide (s.length ≤ 64) = true := by simp; omega
    rw [hc1']
    have HV := Lib.hid (fun W => Valid_ref s W (by omega))
    obtain ⟨b0, h0⟩ : ∃ b, s.isEmpty = b := ⟨_, rfl⟩
    obtain ⟨b2, h2⟩ : ∃ b, (s == [46]) = b := ⟨_, rfl⟩
    obtain ⟨b3, h3⟩ : ∃ b, (s == [46, 46]) = b := ⟨_, rfl⟩
    rw [h0, h2, h3]
    clear hc1'
    cases b0 with
    | true =>
      have hl : s.length = 0 := by cases s <;> simp_all
      have hd : decide ((s.length : Int) < 1) = true := by simp; omega
      have HA := Lib.hid hl
      clear hl
      go_enter Tryz.func21, Tryz.ntmps21
      go_wp2_with (fail)
      go_ret
      exact ⟨rfl, Below.refl _ _⟩
    | false =>
      have hl : 1 ≤ s.length := by cases s <;> simp_all
      have hd : decide ((s.length : Int) < 1) = false := by simp; omega
      cases b2 with
      | true =>
        go_enter Tryz.func21, Tryz.ntmps21
        go_wp2_with (fail)
        go_ret
        exact ⟨rfl, Below.refl _ _⟩
      | false =>
        cases b3 with
        | true =>
          go_enter Tryz.func21, Tryz.ntmps21
          go_wp2_with (fail)
          go_ret
          exact ⟨rfl, Below.refl _ _⟩
        | false =>
          generalize Lib.validD s = bv at *
          cases bv with
          | false =>
            go_enter Tryz.func21, Tryz.ntmps21
            go_wp2_with (fail)
            refine (HV.out _).mono ?_
            rintro e w1 ⟨rfl, hw1⟩
            go_wp2_with (fail)
            go_ret
            exact ⟨rfl, hw1⟩
          | true =>
            go_enter Tryz.func21, Tryz.ntmps21
            go_wp2_with (fail)
            refine (HV.out _).mono ?_
            rintro e w1 ⟨rfl, hw1⟩
            go_wp2_with (fail)
            go_loopw [3] (fun t3 W => ∃ k : Nat, k ≤ s.length ∧ t3 = .int .i64 k ∧ Hid (anyM (s.take k) = false) ∧ W = w1) (fun t3 _ => s.length - (intOf t3).toNat)
            case atStart => exact ⟨0, by omega, rfl, Lib.hid rfl, rfl⟩
            case round =>
              obtain ⟨k, hk, rfl, HN, rfl⟩ := hrel
              have i0 : (0 : Int) ≤ k := by omega
              by_cases hlt : k < s.length
              · have i1 : (k : Int) < s.length := by omega
                have ht := anyM_take s k hlt
                rw [HN.out, Bool.false_or] at ht
                have hg : (ByteArray.mk s.toArray)[k]'(by simpa [ByteArray.size] using hlt) = s[k] := rfl
                generalize s[k] = x at *
                have HT := Lib.hid ht
                by_cases e1 : x = 0
                · have HA := Lib.hid (anyM_le s (k + 1) (by rw [ht, e1]; rfl))
                  have hB : ((x.toNat : Int) == 0) = true := by rw [e1]; rfl
                  clear ht e1
                  go_wp2_with (fail)
                  go_ret
                  exact ⟨by rw [HA.out]; rfl, hw1⟩
                · have hB : ((x.toNat : Int) == 0) = false := by simp; exact fun h => e1 (UInt8.toNat.inj (by simpa using h))
                  by_cases e2 : x = 47
                  · have HA := Lib.hid (anyM_le s (k + 1) (by rw [ht, e2]; rfl))
                    have hB2 : ((x.toNat : Int) == 47) = true := by rw [e2]; rfl
                    clear ht e1 e2
                    go_wp2_with (fail)
                    go_ret
                    exact ⟨by rw [HA.out]; rfl, hw1⟩
                  · have hB2 : ((x.toNat : Int) == 47) = false := by
                      simp only [beq_eq_false_iff_ne, ne_eq]
                      exact fun h => e2 (UInt8.toNat.inj (by simp; omega))
                    have HF := Lib.hid (show anyM (s.take (k + 1)) = false by rw [ht]; simp [e1, e2])
                    clear ht e1 e2
                    go_wp2_with (fail)
                    go_roundw
                    case rel => exact ⟨k + 1, by omega, by go_num, HF, by first | trivial | rfl⟩
                    case measure => simp [intOf]; omega
              · obtain rfl : k = s.length := by omega
                have hn := HN.out
                rw [List.take_of_length_le (Nat.le_refl _)] at hn
                have HX := Lib.hid hn
                clear hn HN
                go_wp2_with (fail)
                go_ret
                exact ⟨by rw [HX.out]; rfl, hw1⟩
  · have hc1 : decide ((64 : Int) < s.length) = true := by simp; omega
    have hc1' : decide (s.length ≤ 64) = false := by simp; omega
    rw [hc1']
    have hd : decide ((s.length : Int) < 1) = false := by simp; omega
    clear hc1'
    go_enter Tryz.func21, Tryz.ntmps21
    go_wp2_with (fail)
    go_ret
    exact ⟨by simp, Below.refl _ _⟩

set_option maxRecDepth 100000 in
set_option maxHeartbeats 2000000 in
theorem Parts_ref (s : List UInt8) (w : World) (hs : s.length ≤ 8796093022200) :
    Calls Tryz.prog 20 #[.string ⟨s.toArray⟩] w (StrsOut w (parts s)) := by
  obtain ⟨i0, hi, hz0, hz1, hz2⟩ := info_parts info_string
  show Calls _ _ _ _ (StrsOut w (cutAt 47 [] s))
  go_enter Tryz.func20, Tryz.ntmps20
  go_wp2_with (fail)
  go_loopw [3, 4, 5] (fun t3 t4 t5 W => ∃ (i f : Nat) (d : List (List UInt8)), i ≤ s.length + 1 ∧ f ≤ i ∧ d.length ≤ i ∧ t5 = .int .i64 i ∧ t4 = .int .i64 f ∧ W.ownsRow w.heap.size 9 1 t3 d.length (strs d) ∧
    Hid ((i ≤ s.length → cutAt 47 [] (s.take i) = d ++ [(s.take i).drop f]) ∧ (i = s.length + 1 → cutAt 47 [] s = d)) ∧ Hid (Below w.heap.size w W)) (fun _ _ t5 _ => s.length + 1 - (intOf t5).toNat)
  case atStart => exact ⟨0, 0, [], by omega, by omega, by simp, rfl, rfl, World.ownsRow_nil _ _ _ _, Lib.hid ⟨fun _ => by simp [cutAt], fun h => by omega⟩, Lib.hid (Below.refl _ _)⟩
  case round =>
    obtain ⟨i, f, d, hi1, hf, hd, rfl, rfl, hown, HC, HB⟩ := hrel
    have hsw := HB.out.size
    have hi0 : (0 : Int) ≤ i := by omega
    by_cases hlt : i < s.length
    · have q1 : decide ((i : Int) ≤ s.length) = true := by simp; omega
      have q2 : ((i : Int) == s.length) = false := by simp; omega
      have hsn := cutAt_snoc 47 [] s[i] _ _ _ (HC.out.1 (by omega))
      rw [← List.take_succ_eq_append_getElem hlt] at hsn
      have hdr : (s.take (i + 1)).drop f = (s.take i).drop f ++ [s[i]] := by
        rw [List.take_succ_eq_append_getElem hlt, List.drop_append_of_le_length (by simp; omega)]
      have hcut : (s.drop f).take (i - f) = (s.take i).drop f := by rw [List.drop_take]
      have i1 : (i : Int) < s.length := by omega
      have hgb : (ByteArray.mk s.toArray)[i]'(by simpa [ByteArray.size] using hlt) = s[i] := rfl
      generalize hc : s[i] = c at *
      have HCUT := Lib.hid hcut
      clear hcut
      by_cases h47 : c = 47
      · rw [if_pos h47, List.append_nil] at hsn
        have HSN := Lib.hid hsn
        have hB : ((c.toNat : Int) == 47) = true := by rw [h47]; rfl
        clear hsn h47 hdr
        generalize hpp : (s.drop f).take (i - f) = p at HCUT
        go_wp2_with (at_builtin; refine wpList_append_own _ rfl _ _ 38 rfl w.heap.size 9 i0 _ 1 16 Tryz.underlying38 hi hz0 hz1 hz2 rfl (by decide) _ _ _ rfl (hown.alloc _) ⟨wr.heap.size, 0, none⟩ 1 1 [.string ⟨p.toArray⟩] rfl rfl (laid_one _ _ _) (one_oneCell rfl) ?c3 ?c4 ?c5 ?_)
        case c3 => unfold maxLen; omega
        case c4 => omega
        case c5 => simp; omega
        intro v1 w1 hown1 hg1 _
        have hb1 : Below w.heap.size w w1 := (HB.out.alloc hsw _).grown hg1 (by simp; omega) (fun k hk => (hown.lt k hk).1)
        have hown2 : w1.ownsRow w.heap.size 9 1 v1 (d ++ [p]).length (strs (d ++ [p])) := by
          rw [strs_append, List.length_append]; exact hown1
        have HB1 := Lib.hid hb1
        clear hg1 hb1 hown1 hpp
        go_wp2_with (fail)
        go_roundw
        case rel =>
          refine ⟨i + 1, i + 1, d ++ [p], by omega, by omega, by simp; omega, by go_num, by go_num, hown2, Lib.hid ⟨fun _ => ?_, fun h => by omega⟩, HB1⟩
          have h1 := HSN.out
          rw [← HCUT.out] at h1
          rw [h1, List.drop_eq_nil_of_le (by simp; omega)]; simp
        case measure => simp [intOf]; omega
      · rw [if_neg h47, ← hdr] at hsn
        have HSN := Lib.hid hsn
        have hB : ((c.toNat : Int) == 47) = false := by
          simp only [beq_eq_false_iff_ne, ne_eq]
          intro e; exact h47 (UInt8.toNat.inj (by simp; omega))
        clear hsn h47 hdr
        go_wp2_with (fail)
        go_roundw
        case rel => exact ⟨i + 1, f, d, by omega, by omega, by omega, by go_num, rfl, hown, Lib.hid ⟨fun _ => HSN.out, fun h => by omega⟩, HB⟩
        case measure => simp [intOf]; omega
    · by_cases he : i = s.length
      · have q1 : decide ((i : Int) ≤ s.length) = true := by simp; omega
        have q2 : ((i : Int) == s.length) = true := by simp; omega
        have hcs := HC.out.1 (by omega)
        have hcut : (s.drop f).take (i - f) = (s.take i).drop f := by rw [List.drop_take]
        rw [← hcut] at hcs
        rw [he, List.take_of_length_le (Nat.le_refl _), ← he] at hcs
        have HCS := Lib.hid hcs
        have i1 : (i : Int) ≤ s.length := by omega
        have HE := Lib.hid he
        clear hcs hcut he
        generalize hpp : (s.drop f).take (i - f) = p at HCS
        go_wp2_with (at_builtin; refine wpList_append_own _ rfl _ _ 38 rfl w.heap.size 9 i0 _ 1 16 Tryz.underlying38 hi hz0 hz1 hz2 rfl (by decide) _ _ _ rfl (hown.alloc _) ⟨wr.heap.size, 0, none⟩ 1 1 [.string ⟨p.toArray⟩] rfl rfl (laid_one _ _ _) (one_oneCell rfl) ?d3 ?d4 ?d5 ?_)
        case d3 => unfold maxLen; omega
        case d4 => omega
        case d5 => simp; omega
        intro v1 w1 hown1 hg1 _
        have hb1 : Below w.heap.size w w1 := (HB.out.alloc hsw _).grown hg1 (by simp; omega) (fun k hk => (hown.lt k hk).1)
        have hown2 : w1.ownsRow w.heap.size 9 1 v1 (d ++ [p]).length (strs (d ++ [p])) := by
          rw [strs_append, List.length_append]; exact hown1
        have HB1 := Lib.hid hb1
        clear hg1 hb1 hown1 hpp
        go_wp2_with (fail)
        go_roundw
        case rel => exact ⟨i + 1, i + 1, d ++ [p], by have := HE.out; omega, by omega, by simp; omega, by go_num, by go_num, hown2, Lib.hid ⟨fun h => by have := HE.out; omega, fun _ => HCS.out⟩, HB1⟩
        case measure => have := HE.out; simp [intOf]; omega
      · have hi' : i = s.length + 1 := by omega
        have q1 : decide ((i : Int) ≤ s.length) = false := by simp; omega
        have q1n : decide (i ≤ s.length) = false := by simp; omega
        have q1i : (s.length : Int) < i := by omega
        have hcs := HC.out.2 hi'
        have HCS := Lib.hid hcs
        obtain ⟨A, c, rfl, hc, hm, hr, hA0⟩ := of_own0 hown
        have HR := Lib.hid hr
        clear hown hr hcs hi' he
        go_wp2_with (fail)
        go_ret
        exact ⟨A, c, by rw [HCS.out]; rfl, by rw [HCS.out]; exact hc, hm, by rw [HCS.out]; exact HR.out, HB.out, hA0⟩

set_option maxRecDepth 100000 in
set_option maxHeartbeats 2000000 in
theorem Path_ref (s : List UInt8) (w : World) (hs : s.length ≤ 8796093022200) :
    Calls Tryz.prog 10 #[.string ⟨s.toArray⟩] w (Ret w (.bool (pathOK s))) := by
  have HP := Lib.hid (Parts_ref s w hs)
  have hpl := parts_length s
  have hcl := List.count_le_length (a := (47 : UInt8)) (l := s)
  unfold pathOK
  by_cases h1 : s.length ≤ 400
  · have q1 : decide ((400 : Int) < s.length) = false := by simp; omega
    have hmem : ∀ x ∈ parts s, x.length ≤ 9223372036854775806 := fun x hx => by
      have hj := join_length (parts s)
      rw [join_parts] at hj
      have := mem_sum hx
      omega
    rw [decide_eq_true h1, Bool.true_and]
    have HME := Lib.hid hmem
    clear hmem
    generalize parts s = l at *
    by_cases h2 : l.length ≤ 16
    · have q2 : decide ((16 : Int) < l.length) = false := by simp; omega
      rw [decide_eq_true h2, Bool.true_and]
      go_enter Tryz.func10, Tryz.ntmps10
      go_wp2_with (fail)
      refine HP.out.mono ?_
      rintro e w1 ⟨A, c, rfl, hc, hm, hr, hw1, hA0⟩
      have HR := Lib.hid hr
      clear hr
      go_wp2_with (fail)
      go_loopw [4] (fun t4 W => ∃ k : Nat, k ≤ l.length ∧ t4 = .int .i64 k ∧ Hid ((l.take k).all nameOK = true) ∧ Hid (Below w1.heap.size w1 W)) (fun t4 _ => l.length - (intOf t4).toNat)
      case atStart => exact ⟨0, by omega, rfl, Lib.hid rfl, Lib.hid (Below.refl _ _)⟩
      case round =>
        obtain ⟨k, hk, rfl, HN, HB⟩ := hrel
        have i0 : (0 : Int) ≤ k := by omega
        have hbel := HB.out
        by_cases hlt : k < l.length
        · obtain ⟨ad, rfl, cS⟩ := (HR.out.below hbel).str_at hlt
          have i1 : (k : Int) < l.length := by omega
          have ht : (l.take (k + 1)).all nameOK = nameOK l[k] := by
            rw [List.take_succ_eq_append_getElem hlt, List.all_append, HN.out]; simp
          have HMM := Lib.hid (List.getElem_mem hlt)
          have hN := Name_ref l[k] wr (HME.out _ (List.getElem_mem hlt))
          have hall : l.all nameOK = true → nameOK l[k] = true := fun h => List.all_eq_true.1 h _ (List.getElem_mem hlt)
          generalize l[k] = x at *
          have HT := Lib.hid ht
          have HALL := Lib.hid hall
          clear hbel ht hall
          cases hx : nameOK x with
          | true =>
            rw [hx] at hN HT
            have HNN := Lib.hid hN
            clear hN hx
            go_wp2_with (fail)
            refine HNN.out.mono ?_
            rintro e w2 ⟨rfl, hw2⟩
            have HB2 := Lib.hid (HB.out.trans (hw2.mono HB.out.size))
            clear hw2
            go_wp2_with (fail)
            go_roundw
            case rel => exact ⟨k + 1, by omega, by go_num, HT, HB2⟩
            case measure => simp [intOf]; omega
          | false =>
            rw [hx] at hN
            have HNN := Lib.hid hN
            have HF := Lib.hid (show l.all nameOK = false by
              rw [← Bool.not_eq_true]; intro h; have := HALL.out h; rw [hx] at this; cases this)
            clear hN hx
            go_wp2_with (fail)
            refine HNN.out.mono ?_
            rintro e w2 ⟨rfl, hw2⟩
            go_wp2_with (fail)
            go_ret
            exact ⟨by rw [HF.out]; rfl, hw1.trans ((HB.out.trans (hw2.mono HB.out.size)).mono hw1.size)⟩
        · obtain rfl : k = l.length := by omega
          have hn := HN.out
          rw [List.take_of_length_le (Nat.le_refl _)] at hn
          have HX := Lib.hid hn
          clear hn HN hbel
          go_wp2_with (fail)
          go_ret
          exact ⟨by rw [HX.out]; rfl, hw1.trans (HB.out.mono hw1.size)⟩
    · have q2 : decide ((16 : Int) < l.length) = true := by simp; omega
      rw [decide_eq_false h2, Bool.false_and]
      go_enter Tryz.func10, Tryz.ntmps10
      go_wp2_with (fail)
      refine HP.out.mono ?_
      rintro e w1 ⟨A, c, rfl, hc, hm, hr, hw1, hA0⟩
      go_wp2_with (fail)
      go_ret
      exact ⟨rfl, hw1⟩
  · have q1 : decide ((400 : Int) < s.length) = true := by simp; omega
    rw [decide_eq_false h1, Bool.false_and, Bool.false_and]
    generalize parts s = l at *
    go_enter Tryz.func10, Tryz.ntmps10
    go_wp2_with (fail)
    refine HP.out.mono ?_
    rintro e w1 ⟨A, c, rfl, hc, hm, hr, hw1, hA0⟩
    go_wp2_with (fail)
    go_ret
    exact ⟨rfl, hw1⟩
end Go.Proofs.YtgppfcaghjbjmaaGreatDoor
end

/- hawserref02: Runes, bad. -/
section
set_option linter.unusedVariables false
namespace Go.Proofs.YtgppfcaghjbjmaaGreatDoor
open Go.RowKit Plain

namespace Plain
theorem badAt_spec : ∀ (n : Nat) (l : List UInt8) (k j : Nat), l.length ≤ n → badAt k l = some j → ∃ i, j = k + i ∧ i < l.length ∧ Lib.validD (l.take i) = true ∧ runeW (l.drop i) = 0 := by
  intro n
  induction n with
  | zero =>
    intro l k j h1 h2
    have : l = [] := List.eq_nil_of_length_eq_zero (by omega)
    subst this
    rw [badAt_nil] at h2; cases h2
  | succ n ih =>
    intro l k j h1 h2
    by_cases hne : l = []
    · subst hne; rw [badAt_nil] at h2; cases h2
    · have hl : 0 < l.length := List.length_pos_iff.2 hne
      rw [badAt_step hne] at h2
      by_cases h0 : runeW l = 0
      · rw [if_pos h0] at h2
        injection h2 with h2
        exact ⟨0, by omega, hl, by rw [List.take_zero]; rfl, by simpa using h0⟩
      · rw [if_neg h0] at h2
        have hwl := runeW_le' hne
        obtain ⟨i, e1, e2, e3, e4⟩ := ih _ _ _ (by simp; omega) h2
        simp only [List.length_drop] at e2
        refine ⟨runeW l + i, by omega, by omega, ?_, by rw [List.drop_drop] at e4; exact e4⟩
        have hw := runeW_take (e := runeW l + i) (show 1 ≤ runeW l by omega) (by omega) (by omega)
        have hr := validD_rune (l.take (runeW l + i)) 0 (by simp; omega)
        simp only [List.drop_zero, Nat.zero_add] at hr
        rw [hr, hw, if_neg h0, List.drop_take, show runeW l + i - runeW l = i by omega]
        exact e3
theorem runeW_max {l : List UInt8} (hne : l ≠ []) (h : 1 ≤ runeW l) : runeW l ≤ 4 := by
  obtain ⟨hr, _, hlen⟩ := runeT_rune hne h
  rw [← hlen]
  have hf := rune_form hr
  generalize runeT l = t at *
  generalize valR t = v at *
  cases hf <;> simp
theorem valid_one {l : List UInt8} (hne : l ≠ []) (h : 1 ≤ runeW l) : Lib.validD (l.take (runeW l)) = true := by
  have hwl := runeW_le' hne
  have hw := runeW_take h (Nat.le_refl _) hwl
  have hl : 0 < l.length := List.length_pos_iff.2 hne
  have hr := validD_rune (l.take (runeW l)) 0 (by simp; omega)
  simp only [List.drop_zero, Nat.zero_add] at hr
  rw [hr, hw, if_neg (by omega), List.drop_eq_nil_of_le (by rw [List.length_take]; exact Nat.min_le_left _ _)]
  rfl
theorem valid_none {l : List UInt8} {n : Nat} (hn : 1 ≤ n) (hl : n ≤ l.length) (h : runeW l = 0) : Lib.validD (l.take n) = false := by
  rw [← Bool.not_eq_true]
  intro hv
  have hne : l.take n ≠ [] := by
    intro e
    have h0 : (l.take n).length = 0 := by rw [e]; rfl
    rw [List.length_take] at h0
    omega
  have := (valid_next hne hv).1
  rw [← runeW_ext this hl hne] at this
  omega
end Plain

theorem info_strR : (Tryz.prog.info? 9).map (fun i => (i.zero, i.size, i.bytes)) = some (some (.string ByteArray.empty), 1, 16) := by kernel_rfl

end Go.Proofs.YtgppfcaghjbjmaaGreatDoor
end

/- hawserref02: bad, closing, Check. -/
section
set_option linter.unusedVariables false
namespace Go.Proofs.YtgppfcaghjbjmaaGreatDoor
open Go.RowKit Plain

set_option maxHeartbeats 2000000 in
set_option maxRecDepth 100000 in
theorem bad_ref (s : List UInt8) (w : World) (hs : s.length ≤ 65536) :
    Calls Tryz.prog 15 #[.string ⟨s.toArray⟩] w (Ret w (.int .i64 (badI (badP s)))) := by
  have HVR := Lib.hid (fun (l : List UInt8) W (h : l.length ≤ 65536) => Valid_ref l W (by omega))
  have hspec := fun j h => badAt_spec s.length s 0 j (Nat.le_refl _) h
  have hbef := fun at' h1 h2 h3 => bad_before s.length s 0 at' (Nat.le_refl _) h1 h2 h3
  rw [badP_at]
  generalize hb : badAt 0 s = B at *
  have HSP := Lib.hid hspec
  have HBF := Lib.hid hbef
  clear hspec hbef hb
  go_enter Tryz.func15, Tryz.ntmps15
  go_wp2_with (fail)
  go_loopw [3] (fun t3 W => ∃ k : Nat, k ≤ s.length ∧ t3 = .int .i64 k ∧ Hid (∀ j, B = some j → k ≤ j) ∧ Hid (Below w.heap.size w W)) (fun t3 _ => s.length - (intOf t3).toNat)
  case atStart => exact ⟨0, by omega, rfl, Lib.hid (fun _ _ => Nat.zero_le _), Lib.hid (Below.refl _ _)⟩
  case round =>
    obtain ⟨k, hk, rfl, HK, HB⟩ := hrel
    have hk0 : (0 : Int) ≤ k := by omega
    by_cases hlt : k < s.length
    · have htl : (s.take k).length ≤ 65536 := by simp; omega
      have hV := HVR.out (s.take k) wr htl
      have hcut : (s.drop 0).take (k - 0) = s.take k := by simp
      cases hv : Lib.validD (s.take k) with
      | false =>
        rw [hv] at hV
        have HV := Lib.hid hV
        have HN := Lib.hid (show ∀ j, B = some j → k + 1 ≤ j from fun j h => by
          have h1 := HK.out j h
          obtain ⟨i, e1, e2, e3, e4⟩ := HSP.out j h
          by_cases e : j = k
          · exfalso
            rw [show i = k by omega, hv] at e3
            cases e3
          · omega)
        clear hV hv
        go_wp2_with (fail)
        refine HV.out.mono ?_
        rintro e w1 ⟨rfl, hw1⟩
        have HB1 := Lib.hid (HB.out.trans (hw1.mono HB.out.size))
        clear hw1
        go_wp2_with (fail)
        go_roundw
        case rel => exact ⟨k + 1, by omega, by go_num, HN, HB1⟩
        case measure => simp [intOf]; omega
      | true =>
        rw [hv] at hV
        have HV := Lib.hid hV
        have hne : s.drop k ≠ [] := by intro e; have := congrArg List.length e; simp at this; omega
        have HVV := Lib.hid hv
        clear hV hv
        by_cases h0 : runeW (s.drop k) = 0
        · -- no rune here: all tries fail
          have hbk : B = some k := by
            cases hB : B with
            | none =>
              exfalso
              have := HBF.out k hlt HVV.out (fun j h => by rw [hB] at h; cases h)
              omega
            | some j =>
              have h1 := HK.out j hB
              by_cases e : j = k
              · rw [e]
              · exfalso
                have := HBF.out k hlt HVV.out (fun j' h => by rw [hB] at h; injection h with h; omega)
                omega
          have HBK := Lib.hid hbk
          have HNV := Lib.hid (fun n (h1 : 1 ≤ n) (h2 : k + n ≤ s.length) => valid_none (l := s.drop k) h1 (by rw [List.length_drop]; omega) h0)
          clear hbk h0 hne
          go_wp2_with (fail)
          refine HV.out.mono ?_
          rintro e w1 ⟨rfl, hw1⟩
          have HB1 := Lib.hid (HB.out.trans (hw1.mono HB.out.size))
          clear hw1
          go_wp2_with (fail)
          go_loopw [4] (fun t4 W => ∃ n : Nat, 1 ≤ n ∧ n ≤ 5 ∧ k + n ≤ s.length + 1 ∧ t4 = .int .i64 n ∧ Hid (Below w.heap.size w W)) (fun t4 _ => 5 - (intOf t4).toNat)
          case atStart => exact ⟨1, by omega, by omega, by omega, rfl, HB1⟩
          case round =>
            obtain ⟨n, hn1, hn5, hkn, rfl, HB2⟩ := hrel
            have e1 : IntKind.i64.wrap ((k : Int) + (n : Int)) = (k : Int) + n := IntWalk.i64_in _ (by omega)
            have e2 : ((k : Int) + (n : Int)).toNat = k + n := by omega
            by_cases hn4 : n ≤ 4
            · have d1 : decide ((n : Int) ≤ 4) = true := by rw [decide_eq_true_eq]; omega
              have d1' : decide ((4 : Int) < (n : Int)) = false := by rw [decide_eq_false_iff_not]; omega
              by_cases hle : k + n ≤ s.length
              · have d2 : decide ((k : Int) + n ≤ (s.length : Int)) = true := by rw [decide_eq_true_eq]; omega
                have d2' : (k : Int) + n ≤ (s.length : Int) := by omega
                have hV2 := HVR.out ((s.drop k).take n) wr (by simp; omega)
                rw [HNV.out n hn1 hle] at hV2
                have HV2 := Lib.hid hV2
                have hcut2 : (s.drop k).take (k + n - k) = (s.drop k).take n := by rw [show k + n - k = n by omega]
                clear hV2
                go_wp2_with (fail)
                refine HV2.out.mono ?_
                rintro e w3 ⟨rfl, hw3⟩
                have HB3 := Lib.hid (HB2.out.trans (hw3.mono HB2.out.size))
                clear hw3
                go_wp2_with (fail)
                go_roundw
                case rel => exact ⟨n + 1, by omega, by omega, by omega, by go_num, HB3⟩
                case measure => simp [intOf]; omega
              · have d2 : decide ((k : Int) + n ≤ (s.length : Int)) = false := by rw [decide_eq_false_iff_not]; omega
                have d2' : decide ((s.length : Int) < (k : Int) + n) = true := by rw [decide_eq_true_eq]; omega
                go_wp2_with (fail)
                go_ret
                exact ⟨by rw [HBK.out]; rfl, HB2.out⟩
            · have d1 : decide ((n : Int) ≤ 4) = false := by rw [decide_eq_false_iff_not]; omega
              have d1' : decide ((4 : Int) < (n : Int)) = true := by rw [decide_eq_true_eq]; omega
              go_wp2_with (fail)
              go_ret
              exact ⟨by rw [HBK.out]; rfl, HB2.out⟩
        · -- a rune: some try does
          have hw1 : 1 ≤ runeW (s.drop k) := by omega
          have h4 := runeW_max hne hw1
          have hwl := runeW_le' hne
          rw [List.length_drop] at hwl
          have hone := valid_one hne hw1
          have HN := Lib.hid (show ∀ j, B = some j → k + 1 ≤ j from fun j h => by
            have h1 := HK.out j h
            obtain ⟨i, e1, e2, e3, e4⟩ := HSP.out j h
            by_cases e : j = k
            · exfalso
              rw [show i = k by omega] at e4
              omega
            · omega)
          generalize hm : runeW (s.drop k) = m at *
          have HONE := Lib.hid hone
          clear hone h0 hne hm
          go_wp2_with (fail)
          refine HV.out.mono ?_
          rintro e w1 ⟨rfl, hw1'⟩
          have HB1 := Lib.hid (HB.out.trans (hw1'.mono HB.out.size))
          clear hw1'
          go_wp2_with (fail)
          go_loopw [4] (fun t4 W => ∃ n : Nat, 1 ≤ n ∧ n ≤ m ∧ t4 = .int .i64 n ∧ Hid (Below w.heap.size w W)) (fun t4 _ => 5 - (intOf t4).toNat)
          case atStart => exact ⟨1, by omega, by omega, rfl, HB1⟩
          case round =>
            obtain ⟨n, hn1, hnm, rfl, HB2⟩ := hrel
            have e1 : IntKind.i64.wrap ((k : Int) + (n : Int)) = (k : Int) + n := IntWalk.i64_in _ (by omega)
            have e2 : ((k : Int) + (n : Int)).toNat = k + n := by omega
            have d1 : decide ((n : Int) ≤ 4) = true := by rw [decide_eq_true_eq]; omega
            have d1' : decide ((4 : Int) < (n : Int)) = false := by rw [decide_eq_false_iff_not]; omega
            have d2 : decide ((k : Int) + n ≤ (s.length : Int)) = true := by rw [decide_eq_true_eq]; omega
            have d2n : (k : Int) + n ≤ (s.length : Int) := by omega
            have d2' : decide ((s.length : Int) < (k : Int) + n) = false := by rw [decide_eq_false_iff_not]; omega
            have hV2 := HVR.out ((s.drop k).take n) wr (by simp; omega)
            have hcut2 : (s.drop k).take (k + n - k) = (s.drop k).take n := by rw [show k + n - k = n by omega]
            cases hvn : Lib.validD ((s.drop k).take n) with
            | true =>
              rw [hvn] at hV2
              have HV2 := Lib.hid hV2
              clear hV2 hvn
              go_wp2_with (fail)
              refine HV2.out.mono ?_
              rintro e w3 ⟨rfl, hw3⟩
              have HB3 := Lib.hid (HB2.out.trans (hw3.mono HB2.out.size))
              clear hw3
              go_wp2_with (fail)
              go_roundw
              all_goals first
                | exact ⟨k + 1, by omega, by go_num, HN, HB3⟩
                | (simp [intOf]; omega)
            | false =>
              rw [hvn] at hV2
              have HV2 := Lib.hid hV2
              have hnm2 : n < m := by
                rcases Nat.lt_or_ge n m with h | h
                · exact h
                · exfalso
                  have : n = m := by omega
                  rw [this, HONE.out] at hvn
                  cases hvn
              clear hV2 hvn
              go_wp2_with (fail)
              refine HV2.out.mono ?_
              rintro e w3 ⟨rfl, hw3⟩
              have HB3 := Lib.hid (HB2.out.trans (hw3.mono HB2.out.size))
              clear hw3
              go_wp2_with (fail)
              go_roundw
              case rel => exact ⟨n + 1, by omega, by omega, by go_num, HB3⟩
              case measure => simp [intOf]; omega
    · obtain rfl : k = s.length := by omega
      have hbn : B = none := by
        cases hB : B with
        | none => rfl
        | some j =>
          exfalso
          have h1 := HK.out j hB
          obtain ⟨i, e1, e2, _⟩ := HSP.out j hB
          omega
      have HBN := Lib.hid hbn
      clear hbn
      go_wp2_with (fail)
      go_ret
      exact ⟨by rw [HBN.out]; rfl, HB.out⟩
end Go.Proofs.YtgppfcaghjbjmaaGreatDoor
end
