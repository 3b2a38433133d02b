/- Texts joined: RuneRef, NameRef, GlobR1, GlobR2, GlobR3. -/
import Derived.Test.YtoifnnhbejofjaaDoorBProfBaseA1
import Derived.IntWalk
import Derived.Test.YtoifnnhbejofjaaDoorBProfBaseA8
import Derived.Test.YtoifnnhbejofjaaDoorBProfBaseA6
import Derived.Test.YtoifnnhbejofjaaDoorBProfWrites1
import Derived.Deep.DeepCutAuto
import Derived.Deep.CutBlock
set_option linter.unusedSimpArgs false
set_option linter.unusedVariables false

/- The document's reader of a rune. -/
section
set_option linter.unusedVariables false
namespace Go.Proofs.YtoifnnhbejofjaaDoor
open Go.RowKit Plain

theorem u8c (x : UInt8) : (0 : Int) ≤ x.toNat ∧ (x.toNat : Int) ≤ 255 := by have := x.toNat_lt; omega

set_option maxHeartbeats 2000000 in
set_option maxRecDepth 100000 in
theorem rune_2 (l : List UInt8) (k : Nat) (w : World) (hk : k < l.length) (h63 : l.length ≤ 4294967296) (hlo : 194 ≤ (l[k]).toNat) (hhi : (l[k]).toNat ≤ 223) :
    Calls Tryd.prog 98 #[.string ⟨l.toArray⟩, .int .i64 k] w (Ret w (.int .i64 (runeW (l.drop k)))) := by
  have HW := Lib.hid (runeW_2 l k hk hlo hhi)
  have HV := Lib.hid (vAt_le l k ((l[k]).toNat - 192) (by omega))
  obtain ⟨v0, hv0⟩ : ∃ v0, (l[k]).toNat - 192 = v0 := ⟨_, rfl⟩
  have hv0' : ((l[k]).toNat : Int) - 192 = (v0 : Int) := by omega
  rw [hv0] at HW HV
  have HV0 := Lib.hid hv0'
  clear hv0 hv0'
  generalize hb : l[k] = b at *
  have hg0 : (ByteArray.mk l.toArray)[k]'(by simpa [ByteArray.size] using hk) = b := by rw [ba_get]; exact hb
  have i0 : (0 : Int) ≤ k := by omega
  have i1 : (k : Int) < l.length := by omega
  have b1 : (194 : Int) ≤ b.toNat := by omega
  have b2 : (b.toNat : Int) ≤ 223 := by omega
  clear hb
  by_cases hlen : l.length < k + 2
  · have HR := Lib.hid (HW.out.1 hlen)
    have hd : decide ((l.length : Int) < (k : Int) + 2) = true := by simp; omega
    clear hlen
    go_enter Tryd.func98, Tryd.ntmps98
    go_wp2_with (fail)
    go_ret
    exact ⟨by rw [HR.out]; rfl, Below.refl _ _⟩
  · have hd : decide ((l.length : Int) < (k : Int) + 2) = false := by simp; omega
    go_enter Tryd.func98, Tryd.ntmps98
    go_wp2_with (fail)
    go_loopw [8, 9] (fun t8 t9 W => ∃ i : Nat, 1 ≤ i ∧ i ≤ 2 ∧ t9 = .int .i64 i ∧ t8 = .int .i64 (vAt l k v0 i) ∧ Hid (∀ j, 1 ≤ j → j < i → 128 ≤ (l.getD (k + j) 0).toNat ∧ (l.getD (k + j) 0).toNat ≤ 191) ∧ W = w) (fun _ t9 _ => 8 - (intOf t9).toNat)
    case atStart => exact ⟨1, by omega, by omega, rfl, by rw [vAt_one, ← HV0.out], Lib.hid (fun j h1 h2 => by omega), rfl⟩
    case round =>
      obtain ⟨i, hi1, hi2, rfl, rfl, HC, rfl⟩ := hrel
      have hvi := HV.out i hi1 (by omega)
      by_cases hin : i < 2
      · have hg : l.getD (k + i) 0 = l[k + i]'(by omega) := by simp [List.getD, show k + i < l.length by omega]
        have HG := Lib.hid hg
        have hn1 : ((k : Int) + i).toNat = k + i := by omega
        have hp1 : (0 : Int) ≤ (k : Int) + i := by omega
        have hp2 : (k : Int) + i < l.length := by omega
        have hw1 : IntKind.i64.wrap ((k : Int) + i) = (k : Int) + i := IntWalk.i64_in _ (by omega)
        clear hg
        generalize hcc : l[k + i]'(by omega) = c at *
        have hg1 : (ByteArray.mk l.toArray)[k + i]'(by simp [ByteArray.size]; omega) = c := by rw [ba_get]; exact hcc
        clear hcc
        have hcb := u8c c
        by_cases hc : 128 ≤ c.toNat ∧ c.toNat ≤ 191
        · obtain ⟨hc1, hc2⟩ := hc
          have hc1' : (128 : Int) ≤ c.toNat := by omega
          have hc2' : (c.toNat : Int) ≤ 191 := by omega
          have hs : ((vAt l k v0 i : Nat) : Int) * 64 + c.toNat - 128 = ((vAt l k v0 (i + 1) : Nat) : Int) := by rw [vAt_succ l k v0 i hi1, HG.out]; omega
          have HS := Lib.hid hs
          have HGV : Hid (vAt l k v0 (i + 1) = vAt l k v0 (i + 1)) := Lib.hid rfl
          clear hs HGV
          generalize vAt l k v0 i = v at *
          go_wp2_with (fail)
          go_roundw
          case rel => exact ⟨i + 1, by omega, by omega, by go_num, by rw [← HS.out], Lib.hid (fun j h1 h2 => by
            by_cases e : j = i
            · subst e; rw [HG.out]; exact ⟨hc1, hc2⟩
            · exact HC.out j h1 (by omega)), by first | trivial | rfl⟩
          case measure => simp [intOf]; omega
        · have hz := HW.out.2.1 i hi1 hin (by omega) (by rw [HG.out]; exact hc)
          have HZ := Lib.hid hz
          clear hz
          by_cases hc1 : c.toNat < 128
          · have hc1' : (c.toNat : Int) < 128 := by omega
            clear hc
            generalize vAt l k v0 i = v at *
            go_wp2_with (fail)
            go_ret
            exact ⟨by rw [HZ.out]; rfl, Below.refl _ _⟩
          · have hc1' : (128 : Int) ≤ c.toNat := by omega
            have hc2' : (191 : Int) < c.toNat := by omega
            clear hc
            generalize vAt l k v0 i = v at *
            go_wp2_with (fail)
            go_ret
            exact ⟨by rw [HZ.out]; rfl, Below.refl _ _⟩
      · obtain rfl : i = 2 := by omega
        have HZ := Lib.hid (HW.out.2.2 (by omega) HC.out)
        generalize vAt l k v0 2 = v at *
        have v63 : (v : Int) ≤ 16777215 := by omega
        by_cases q1 : v < 128
        · have HF := Lib.hid (show finW 2 128 v = 0 by unfold finW; rw [if_pos (by omega)])
          have q1' : (v : Int) < 128 := by omega
          go_wp2_with (fail)
          go_ret
          exact ⟨by rw [HZ.out, HF.out]; rfl, Below.refl _ _⟩
        · have q1' : (128 : Int) ≤ v := by omega
          by_cases q2 : 1114111 < v
          · have HF := Lib.hid (show finW 2 128 v = 0 by unfold finW; rw [if_pos (by omega)])
            have q2' : (1114111 : Int) < v := by omega
            go_wp2_with (fail)
            go_ret
            exact ⟨by rw [HZ.out, HF.out]; rfl, Below.refl _ _⟩
          · have q2' : (v : Int) ≤ 1114111 := by omega
            by_cases q3 : 55296 ≤ v
            · have q3' : (55296 : Int) ≤ v := by omega
              by_cases q4 : v ≤ 57343
              · have HF := Lib.hid (show finW 2 128 v = 0 by unfold finW; rw [if_pos (by omega)])
                have q4' : (v : Int) ≤ 57343 := by omega
                go_wp2_with (fail)
                go_ret
                exact ⟨by rw [HZ.out, HF.out]; rfl, Below.refl _ _⟩
              · have HF := Lib.hid (show finW 2 128 v = 2 by unfold finW; rw [if_neg (by omega)])
                have q4' : (57343 : Int) < v := by omega
                go_wp2_with (fail)
                go_ret
                exact ⟨by rw [HZ.out, HF.out]; rfl, Below.refl _ _⟩
            · have HF := Lib.hid (show finW 2 128 v = 2 by unfold finW; rw [if_neg (by omega)])
              have q3' : decide ((55296 : Int) ≤ (v : Int)) = false := by simp; omega
              clear q1 q2 q3
              go_wp2_with (fail)
              go_ret
              exact ⟨by rw [HZ.out, HF.out]; rfl, Below.refl _ _⟩

set_option maxHeartbeats 2000000 in
set_option maxRecDepth 100000 in
theorem rune_3 (l : List UInt8) (k : Nat) (w : World) (hk : k < l.length) (h63 : l.length ≤ 4294967296) (hlo : 224 ≤ (l[k]).toNat) (hhi : (l[k]).toNat ≤ 239) :
    Calls Tryd.prog 98 #[.string ⟨l.toArray⟩, .int .i64 k] w (Ret w (.int .i64 (runeW (l.drop k)))) := by
  have HW := Lib.hid (runeW_3 l k hk hlo hhi)
  have HV := Lib.hid (vAt_le l k ((l[k]).toNat - 224) (by omega))
  obtain ⟨v0, hv0⟩ : ∃ v0, (l[k]).toNat - 224 = v0 := ⟨_, rfl⟩
  have hv0' : ((l[k]).toNat : Int) - 224 = (v0 : Int) := by omega
  rw [hv0] at HW HV
  have HV0 := Lib.hid hv0'
  clear hv0 hv0'
  generalize hb : l[k] = b at *
  have hg0 : (ByteArray.mk l.toArray)[k]'(by simpa [ByteArray.size] using hk) = b := by rw [ba_get]; exact hb
  have i0 : (0 : Int) ≤ k := by omega
  have i1 : (k : Int) < l.length := by omega
  have b1 : (224 : Int) ≤ b.toNat := by omega
  have b2 : (b.toNat : Int) ≤ 239 := by omega
  clear hb
  by_cases hlen : l.length < k + 3
  · have HR := Lib.hid (HW.out.1 hlen)
    have hd : decide ((l.length : Int) < (k : Int) + 3) = true := by simp; omega
    clear hlen
    go_enter Tryd.func98, Tryd.ntmps98
    go_wp2_with (fail)
    go_ret
    exact ⟨by rw [HR.out]; rfl, Below.refl _ _⟩
  · have hd : decide ((l.length : Int) < (k : Int) + 3) = false := by simp; omega
    go_enter Tryd.func98, Tryd.ntmps98
    go_wp2_with (fail)
    go_loopw [8, 9] (fun t8 t9 W => ∃ i : Nat, 1 ≤ i ∧ i ≤ 3 ∧ t9 = .int .i64 i ∧ t8 = .int .i64 (vAt l k v0 i) ∧ Hid (∀ j, 1 ≤ j → j < i → 128 ≤ (l.getD (k + j) 0).toNat ∧ (l.getD (k + j) 0).toNat ≤ 191) ∧ W = w) (fun _ t9 _ => 8 - (intOf t9).toNat)
    case atStart => exact ⟨1, by omega, by omega, rfl, by rw [vAt_one, ← HV0.out], Lib.hid (fun j h1 h2 => by omega), rfl⟩
    case round =>
      obtain ⟨i, hi1, hi2, rfl, rfl, HC, rfl⟩ := hrel
      have hvi := HV.out i hi1 (by omega)
      by_cases hin : i < 3
      · have hg : l.getD (k + i) 0 = l[k + i]'(by omega) := by simp [List.getD, show k + i < l.length by omega]
        have HG := Lib.hid hg
        have hn1 : ((k : Int) + i).toNat = k + i := by omega
        have hp1 : (0 : Int) ≤ (k : Int) + i := by omega
        have hp2 : (k : Int) + i < l.length := by omega
        have hw1 : IntKind.i64.wrap ((k : Int) + i) = (k : Int) + i := IntWalk.i64_in _ (by omega)
        clear hg
        generalize hcc : l[k + i]'(by omega) = c at *
        have hg1 : (ByteArray.mk l.toArray)[k + i]'(by simp [ByteArray.size]; omega) = c := by rw [ba_get]; exact hcc
        clear hcc
        have hcb := u8c c
        by_cases hc : 128 ≤ c.toNat ∧ c.toNat ≤ 191
        · obtain ⟨hc1, hc2⟩ := hc
          have hc1' : (128 : Int) ≤ c.toNat := by omega
          have hc2' : (c.toNat : Int) ≤ 191 := by omega
          have hs : ((vAt l k v0 i : Nat) : Int) * 64 + c.toNat - 128 = ((vAt l k v0 (i + 1) : Nat) : Int) := by rw [vAt_succ l k v0 i hi1, HG.out]; omega
          have HS := Lib.hid hs
          have HGV : Hid (vAt l k v0 (i + 1) = vAt l k v0 (i + 1)) := Lib.hid rfl
          clear hs HGV
          generalize vAt l k v0 i = v at *
          go_wp2_with (fail)
          go_roundw
          case rel => exact ⟨i + 1, by omega, by omega, by go_num, by rw [← HS.out], Lib.hid (fun j h1 h2 => by
            by_cases e : j = i
            · subst e; rw [HG.out]; exact ⟨hc1, hc2⟩
            · exact HC.out j h1 (by omega)), by first | trivial | rfl⟩
          case measure => simp [intOf]; omega
        · have hz := HW.out.2.1 i hi1 hin (by omega) (by rw [HG.out]; exact hc)
          have HZ := Lib.hid hz
          clear hz
          by_cases hc1 : c.toNat < 128
          · have hc1' : (c.toNat : Int) < 128 := by omega
            clear hc
            generalize vAt l k v0 i = v at *
            go_wp2_with (fail)
            go_ret
            exact ⟨by rw [HZ.out]; rfl, Below.refl _ _⟩
          · have hc1' : (128 : Int) ≤ c.toNat := by omega
            have hc2' : (191 : Int) < c.toNat := by omega
            clear hc
            generalize vAt l k v0 i = v at *
            go_wp2_with (fail)
            go_ret
            exact ⟨by rw [HZ.out]; rfl, Below.refl _ _⟩
      · obtain rfl : i = 3 := by omega
        have HZ := Lib.hid (HW.out.2.2 (by omega) HC.out)
        generalize vAt l k v0 3 = v at *
        have v63 : (v : Int) ≤ 16777215 := by omega
        by_cases q1 : v < 2048
        · have HF := Lib.hid (show finW 3 2048 v = 0 by unfold finW; rw [if_pos (by omega)])
          have q1' : (v : Int) < 2048 := by omega
          go_wp2_with (fail)
          go_ret
          exact ⟨by rw [HZ.out, HF.out]; rfl, Below.refl _ _⟩
        · have q1' : (2048 : Int) ≤ v := by omega
          by_cases q2 : 1114111 < v
          · have HF := Lib.hid (show finW 3 2048 v = 0 by unfold finW; rw [if_pos (by omega)])
            have q2' : (1114111 : Int) < v := by omega
            go_wp2_with (fail)
            go_ret
            exact ⟨by rw [HZ.out, HF.out]; rfl, Below.refl _ _⟩
          · have q2' : (v : Int) ≤ 1114111 := by omega
            by_cases q3 : 55296 ≤ v
            · have q3' : (55296 : Int) ≤ v := by omega
              by_cases q4 : v ≤ 57343
              · have HF := Lib.hid (show finW 3 2048 v = 0 by unfold finW; rw [if_pos (by omega)])
                have q4' : (v : Int) ≤ 57343 := by omega
                go_wp2_with (fail)
                go_ret
                exact ⟨by rw [HZ.out, HF.out]; rfl, Below.refl _ _⟩
              · have HF := Lib.hid (show finW 3 2048 v = 3 by unfold finW; rw [if_neg (by omega)])
                have q4' : (57343 : Int) < v := by omega
                go_wp2_with (fail)
                go_ret
                exact ⟨by rw [HZ.out, HF.out]; rfl, Below.refl _ _⟩
            · have HF := Lib.hid (show finW 3 2048 v = 3 by unfold finW; rw [if_neg (by omega)])
              have q3' : decide ((55296 : Int) ≤ (v : Int)) = false := by simp; omega
              clear q1 q2 q3
              go_wp2_with (fail)
              go_ret
              exact ⟨by rw [HZ.out, HF.out]; rfl, Below.refl _ _⟩

set_option maxHeartbeats 2000000 in
set_option maxRecDepth 100000 in
theorem rune_4 (l : List UInt8) (k : Nat) (w : World) (hk : k < l.length) (h63 : l.length ≤ 4294967296) (hlo : 240 ≤ (l[k]).toNat) (hhi : (l[k]).toNat ≤ 244) :
    Calls Tryd.prog 98 #[.string ⟨l.toArray⟩, .int .i64 k] w (Ret w (.int .i64 (runeW (l.drop k)))) := by
  have HW := Lib.hid (runeW_4 l k hk hlo hhi)
  have HV := Lib.hid (vAt_le l k ((l[k]).toNat - 240) (by omega))
  obtain ⟨v0, hv0⟩ : ∃ v0, (l[k]).toNat - 240 = v0 := ⟨_, rfl⟩
  have hv0' : ((l[k]).toNat : Int) - 240 = (v0 : Int) := by omega
  rw [hv0] at HW HV
  have HV0 := Lib.hid hv0'
  clear hv0 hv0'
  generalize hb : l[k] = b at *
  have hg0 : (ByteArray.mk l.toArray)[k]'(by simpa [ByteArray.size] using hk) = b := by rw [ba_get]; exact hb
  have i0 : (0 : Int) ≤ k := by omega
  have i1 : (k : Int) < l.length := by omega
  have b1 : (240 : Int) ≤ b.toNat := by omega
  have b2 : (b.toNat : Int) ≤ 244 := by omega
  clear hb
  by_cases hlen : l.length < k + 4
  · have HR := Lib.hid (HW.out.1 hlen)
    have hd : decide ((l.length : Int) < (k : Int) + 4) = true := by simp; omega
    clear hlen
    go_enter Tryd.func98, Tryd.ntmps98
    go_wp2_with (fail)
    go_ret
    exact ⟨by rw [HR.out]; rfl, Below.refl _ _⟩
  · have hd : decide ((l.length : Int) < (k : Int) + 4) = false := by simp; omega
    go_enter Tryd.func98, Tryd.ntmps98
    go_wp2_with (fail)
    go_loopw [8, 9] (fun t8 t9 W => ∃ i : Nat, 1 ≤ i ∧ i ≤ 4 ∧ t9 = .int .i64 i ∧ t8 = .int .i64 (vAt l k v0 i) ∧ Hid (∀ j, 1 ≤ j → j < i → 128 ≤ (l.getD (k + j) 0).toNat ∧ (l.getD (k + j) 0).toNat ≤ 191) ∧ W = w) (fun _ t9 _ => 8 - (intOf t9).toNat)
    case atStart => exact ⟨1, by omega, by omega, rfl, by rw [vAt_one, ← HV0.out], Lib.hid (fun j h1 h2 => by omega), rfl⟩
    case round =>
      obtain ⟨i, hi1, hi2, rfl, rfl, HC, rfl⟩ := hrel
      have hvi := HV.out i hi1 (by omega)
      by_cases hin : i < 4
      · have hg : l.getD (k + i) 0 = l[k + i]'(by omega) := by simp [List.getD, show k + i < l.length by omega]
        have HG := Lib.hid hg
        have hn1 : ((k : Int) + i).toNat = k + i := by omega
        have hp1 : (0 : Int) ≤ (k : Int) + i := by omega
        have hp2 : (k : Int) + i < l.length := by omega
        have hw1 : IntKind.i64.wrap ((k : Int) + i) = (k : Int) + i := IntWalk.i64_in _ (by omega)
        clear hg
        generalize hcc : l[k + i]'(by omega) = c at *
        have hg1 : (ByteArray.mk l.toArray)[k + i]'(by simp [ByteArray.size]; omega) = c := by rw [ba_get]; exact hcc
        clear hcc
        have hcb := u8c c
        by_cases hc : 128 ≤ c.toNat ∧ c.toNat ≤ 191
        · obtain ⟨hc1, hc2⟩ := hc
          have hc1' : (128 : Int) ≤ c.toNat := by omega
          have hc2' : (c.toNat : Int) ≤ 191 := by omega
          have hs : ((vAt l k v0 i : Nat) : Int) * 64 + c.toNat - 128 = ((vAt l k v0 (i + 1) : Nat) : Int) := by rw [vAt_succ l k v0 i hi1, HG.out]; omega
          have HS := Lib.hid hs
          have HGV : Hid (vAt l k v0 (i + 1) = vAt l k v0 (i + 1)) := Lib.hid rfl
          clear hs HGV
          generalize vAt l k v0 i = v at *
          go_wp2_with (fail)
          go_roundw
          case rel => exact ⟨i + 1, by omega, by omega, by go_num, by rw [← HS.out], Lib.hid (fun j h1 h2 => by
            by_cases e : j = i
            · subst e; rw [HG.out]; exact ⟨hc1, hc2⟩
            · exact HC.out j h1 (by omega)), by first | trivial | rfl⟩
          case measure => simp [intOf]; omega
        · have hz := HW.out.2.1 i hi1 hin (by omega) (by rw [HG.out]; exact hc)
          have HZ := Lib.hid hz
          clear hz
          by_cases hc1 : c.toNat < 128
          · have hc1' : (c.toNat : Int) < 128 := by omega
            clear hc
            generalize vAt l k v0 i = v at *
            go_wp2_with (fail)
            go_ret
            exact ⟨by rw [HZ.out]; rfl, Below.refl _ _⟩
          · have hc1' : (128 : Int) ≤ c.toNat := by omega
            have hc2' : (191 : Int) < c.toNat := by omega
            clear hc
            generalize vAt l k v0 i = v at *
            go_wp2_with (fail)
            go_ret
            exact ⟨by rw [HZ.out]; rfl, Below.refl _ _⟩
      · obtain rfl : i = 4 := by omega
        have HZ := Lib.hid (HW.out.2.2 (by omega) HC.out)
        generalize vAt l k v0 4 = v at *
        have v63 : (v : Int) ≤ 16777215 := by omega
        by_cases q1 : v < 65536
        · have HF := Lib.hid (show finW 4 65536 v = 0 by unfold finW; rw [if_pos (by omega)])
          have q1' : (v : Int) < 65536 := by omega
          go_wp2_with (fail)
          go_ret
          exact ⟨by rw [HZ.out, HF.out]; rfl, Below.refl _ _⟩
        · have q1' : (65536 : Int) ≤ v := by omega
          by_cases q2 : 1114111 < v
          · have HF := Lib.hid (show finW 4 65536 v = 0 by unfold finW; rw [if_pos (by omega)])
            have q2' : (1114111 : Int) < v := by omega
            go_wp2_with (fail)
            go_ret
            exact ⟨by rw [HZ.out, HF.out]; rfl, Below.refl _ _⟩
          · have q2' : (v : Int) ≤ 1114111 := by omega
            by_cases q3 : 55296 ≤ v
            · have q3' : (55296 : Int) ≤ v := by omega
              by_cases q4 : v ≤ 57343
              · have HF := Lib.hid (show finW 4 65536 v = 0 by unfold finW; rw [if_pos (by omega)])
                have q4' : (v : Int) ≤ 57343 := by omega
                go_wp2_with (fail)
                go_ret
                exact ⟨by rw [HZ.out, HF.out]; rfl, Below.refl _ _⟩
              · have HF := Lib.hid (show finW 4 65536 v = 4 by unfold finW; rw [if_neg (by omega)])
                have q4' : (57343 : Int) < v := by omega
                go_wp2_with (fail)
                go_ret
                exact ⟨by rw [HZ.out, HF.out]; rfl, Below.refl _ _⟩
            · have HF := Lib.hid (show finW 4 65536 v = 4 by unfold finW; rw [if_neg (by omega)])
              have q3' : decide ((55296 : Int) ≤ (v : Int)) = false := by simp; omega
              clear q1 q2 q3
              go_wp2_with (fail)
              go_ret
              exact ⟨by rw [HZ.out, HF.out]; rfl, Below.refl _ _⟩

set_option maxRecDepth 100000 in
theorem rune_asc (l : List UInt8) (k : Nat) (w : World) (hk : k < l.length) (h63 : l.length ≤ 4294967296) (hhi : (l[k]).toNat < 128) :
    Calls Tryd.prog 98 #[.string ⟨l.toArray⟩, .int .i64 k] w (Ret w (.int .i64 (runeW (l.drop k)))) := by
  have HR := Lib.hid (runeW_asc l k (by simpa [List.getD, hk] using hhi))
  generalize hb : l[k] = b at *
  have hg0 : (ByteArray.mk l.toArray)[k]'(by simpa [ByteArray.size] using hk) = b := by rw [ba_get]; exact hb
  have i0 : (0 : Int) ≤ k := by omega
  have i1 : (k : Int) < l.length := by omega
  have b0 := u8c b
  have b2 : (b.toNat : Int) < 128 := by omega
  clear hb
  go_enter Tryd.func98, Tryd.ntmps98
  go_wp2_with (fail)
  go_ret
  exact ⟨by rw [HR.out]; rfl, Below.refl _ _⟩
set_option maxRecDepth 100000 in
theorem rune_bad1 (l : List UInt8) (k : Nat) (w : World) (hk : k < l.length) (h63 : l.length ≤ 4294967296) (hlo : 128 ≤ (l[k]).toNat) (hhi : (l[k]).toNat < 194) :
    Calls Tryd.prog 98 #[.string ⟨l.toArray⟩, .int .i64 k] w (Ret w (.int .i64 (runeW (l.drop k)))) := by
  have HR := Lib.hid (runeW_bad l k (by simp [List.getD, hk]; omega))
  generalize hb : l[k] = b at *
  have hg0 : (ByteArray.mk l.toArray)[k]'(by simpa [ByteArray.size] using hk) = b := by rw [ba_get]; exact hb
  have i0 : (0 : Int) ≤ k := by omega
  have i1 : (k : Int) < l.length := by omega
  have b1 : (128 : Int) ≤ b.toNat := by omega
  have b2 : (b.toNat : Int) < 194 := by omega
  clear hb
  go_enter Tryd.func98, Tryd.ntmps98
  go_wp2_with (fail)
  go_ret
  exact ⟨by rw [HR.out]; rfl, Below.refl _ _⟩
set_option maxRecDepth 100000 in
theorem rune_bad2 (l : List UInt8) (k : Nat) (w : World) (hk : k < l.length) (h63 : l.length ≤ 4294967296) (hlo : 245 ≤ (l[k]).toNat) :
    Calls Tryd.prog 98 #[.string ⟨l.toArray⟩, .int .i64 k] w (Ret w (.int .i64 (runeW (l.drop k)))) := by
  have HR := Lib.hid (runeW_bad l k (by simp [List.getD, hk]; omega))
  generalize hb : l[k] = b at *
  have hg0 : (ByteArray.mk l.toArray)[k]'(by simpa [ByteArray.size] using hk) = b := by rw [ba_get]; exact hb
  have i0 : (0 : Int) ≤ k := by omega
  have i1 : (k : Int) < l.length := by omega
  have b1 : (245 : Int) ≤ b.toNat := by omega
  have b2 := u8c b
  clear hb
  go_enter Tryd.func98, Tryd.ntmps98
  go_wp2_with (fail)
  go_ret
  exact ⟨by rw [HR.out]; rfl, Below.refl _ _⟩
theorem rune_any (l : List UInt8) (k : Nat) (w : World) (hk : k < l.length) (h63 : l.length ≤ 4294967296) :
    Calls Tryd.prog 98 #[.string ⟨l.toArray⟩, .int .i64 k] w (Ret w (.int .i64 (runeW (l.drop k)))) := by
  by_cases h1 : (l[k]).toNat < 128
  · exact rune_asc l k w hk h63 h1
  by_cases h2 : (l[k]).toNat < 194
  · exact rune_bad1 l k w hk h63 (by omega) h2
  by_cases h3 : (l[k]).toNat ≤ 223
  · exact rune_2 l k w hk h63 (by omega) h3
  by_cases h4 : (l[k]).toNat ≤ 239
  · exact rune_3 l k w hk h63 (by omega) h4
  by_cases h5 : (l[k]).toNat ≤ 244
  · exact rune_4 l k w hk h63 (by omega) h5
  exact rune_bad2 l k w hk h63 (by omega)

theorem Valid_ref (l : List UInt8) (w : World) (h63 : l.length ≤ 4294967296) :
    Calls Tryd.prog 81 #[.string ⟨l.toArray⟩] w (Ret w (.bool (Lib.validD l))) := by
  have hw0 := Lib.hid (Below.refl w.heap.size w)
  go_enter Tryd.func81, Tryd.ntmps81
  go_wp2_with (fail)
  go_loopw [3] (fun t3 W => ∃ k : Nat, k ≤ l.length ∧ t3 = .int .i64 k ∧ Hid (Below w.heap.size w W) ∧ Hid (Lib.validD l = Lib.validD (l.drop k))) (fun t3 _ => l.length - (intOf t3).toNat)
  case atStart => exact ⟨0, by omega, rfl, hw0, Lib.hid (by rw [List.drop_zero])⟩
  case round =>
    obtain ⟨k, hk, rfl, HB, HV⟩ := hrel
    have i0 : (0 : Int) ≤ k := by omega
    by_cases hlt : k < l.length
    · have i1 : (k : Int) < l.length := by omega
      have HC := Lib.hid (rune_any l k wr hlt h63)
      have hstep := HV.out
      rw [validD_rune l k hlt] at hstep
      have hle := runeW_le l k hlt
      generalize runeW (l.drop k) = n at *
      have HST := Lib.hid hstep
      clear hstep HV
      by_cases hn : n = 0
      · subst hn
        go_wp2_with (fail)
        refine HC.out.mono ?_
        rintro e w1 ⟨rfl, hw1⟩
        go_wp2_with (fail)
        go_ret
        exact ⟨by rw [HST.out]; rfl, HB.out.trans (hw1.mono HB.out.size)⟩
      · have i2 : ((n : Int) == 0) = false := by simp; omega
        go_wp2_with (fail)
        refine HC.out.mono ?_
        rintro e w1 ⟨rfl, hw1⟩
        have HB1 := Lib.hid (HB.out.trans (hw1.mono HB.out.size))
        clear hw1
        go_wp2_with (fail)
        go_roundw
        case rel => exact ⟨k + n, by omega, by go_num, HB1, Lib.hid (by rw [HST.out, if_neg hn])⟩
        case measure => simp [intOf]; omega
    · obtain rfl : k = l.length := by omega
      have hv := HV.out
      rw [List.drop_length] at hv
      have HV' := Lib.hid hv
      clear hv HV
      go_wp2_with (fail)
      go_ret
      exact ⟨by rw [HV'.out]; rfl, HB.out⟩
end Go.Proofs.YtoifnnhbejofjaaDoor
end

/- hawserref01: Name, Parts, Path. -/
section
namespace Go.Proofs.YtoifnnhbejofjaaDoor
open Go.RowKit Plain

theorem anyM_take (s : List UInt8) (k : Nat) (h : k < s.length) : anyM (s.take (k + 1)) = (anyM (s.take k) || s[k] == 47 || s[k] == 0) := by
  unfold anyM
  rw [List.take_succ_eq_append_getElem h]
  simp only [List.contains_append, List.contains_cons, List.contains_nil, Bool.or_false]
  rw [show ((47 : UInt8) == s[k]) = (s[k] == 47) by rw [Bool.eq_iff_iff]; simp only [beq_iff_eq]; exact eq_comm, show ((0 : UInt8) == s[k]) = (s[k] == 0) by rw [Bool.eq_iff_iff]; simp only [beq_iff_eq]; exact eq_comm]
  cases (s.take k).contains 47 <;> cases (s.take k).contains 0 <;> cases s[k] == 47 <;> cases s[k] == 0 <;> rfl
theorem anyM_le (s : List UInt8) (k : Nat) (h : anyM (s.take k) = true) : anyM s = true := by
  unfold anyM at h ⊢
  simp only [Bool.or_eq_true, List.contains_iff_mem] at h ⊢
  rcases h with h | h
  · exact .inl (List.mem_of_mem_take h)
  · exact .inr (List.mem_of_mem_take h)

theorem mem_sum : ∀ {l : List (List UInt8)} {x : List UInt8}, x ∈ l → x.length ≤ (l.map List.length).sum
  | [], _, h => by cases h
  | y :: l, x, h => by
    rcases List.mem_cons.1 h with rfl | h
    · simp
    · have := mem_sum h; simp; omega


end Go.Proofs.YtoifnnhbejofjaaDoor
end

/- hawserref02: Runes, bad. -/
section
set_option linter.unusedVariables false
namespace Go.Proofs.YtoifnnhbejofjaaDoor
open Go.RowKit Plain

namespace Plain
theorem badAt_spec : ∀ (n : Nat) (l : List UInt8) (k j : Nat), l.length ≤ n → badAt k l = some j → ∃ i, j = k + i ∧ i < l.length ∧ Lib.validD (l.take i) = true ∧ runeW (l.drop i) = 0 := by
  intro n
  induction n with
  | zero =>
    intro l k j h1 h2
    have : l = [] := List.eq_nil_of_length_eq_zero (by omega)
    subst this
    rw [badAt_nil] at h2; cases h2
  | succ n ih =>
    intro l k j h1 h2
    by_cases hne : l = []
    · subst hne; rw [badAt_nil] at h2; cases h2
    · have hl : 0 < l.length := List.length_pos_iff.2 hne
      rw [badAt_step hne] at h2
      by_cases h0 : runeW l = 0
      · rw [if_pos h0] at h2
        injection h2 with h2
        exact ⟨0, by omega, hl, by rw [List.take_zero]; rfl, by simpa using h0⟩
      · rw [if_neg h0] at h2
        have hwl := runeW_le' hne
        obtain ⟨i, e1, e2, e3, e4⟩ := ih _ _ _ (by simp; omega) h2
        simp only [List.length_drop] at e2
        refine ⟨runeW l + i, by omega, by omega, ?_, by rw [List.drop_drop] at e4; exact e4⟩
        have hw := runeW_take (e := runeW l + i) (show 1 ≤ runeW l by omega) (by omega) (by omega)
        have hr := validD_rune (l.take (runeW l + i)) 0 (by simp; omega)
        simp only [List.drop_zero, Nat.zero_add] at hr
        rw [hr, hw, if_neg h0, List.drop_take, show runeW l + i - runeW l = i by omega]
        exact e3
theorem runeW_max {l : List UInt8} (hne : l ≠ []) (h : 1 ≤ runeW l) : runeW l ≤ 4 := by
  obtain ⟨hr, _, hlen⟩ := runeT_rune hne h
  rw [← hlen]
  have hf := rune_form hr
  generalize runeT l = t at *
  generalize valR t = v at *
  cases hf <;> simp
theorem valid_one {l : List UInt8} (hne : l ≠ []) (h : 1 ≤ runeW l) : Lib.validD (l.take (runeW l)) = true := by
  have hwl := runeW_le' hne
  have hw := runeW_take h (Nat.le_refl _) hwl
  have hl : 0 < l.length := List.length_pos_iff.2 hne
  have hr := validD_rune (l.take (runeW l)) 0 (by simp; omega)
  simp only [List.drop_zero, Nat.zero_add] at hr
  rw [hr, hw, if_neg (by omega), List.drop_eq_nil_of_le (by rw [List.length_take]; exact Nat.min_le_left _ _)]
  rfl
theorem valid_none {l : List UInt8} {n : Nat} (hn : 1 ≤ n) (hl : n ≤ l.length) (h : runeW l = 0) : Lib.validD (l.take n) = false := by
  rw [← Bool.not_eq_true]
  intro hv
  have hne : l.take n ≠ [] := by
    intro e
    have h0 : (l.take n).length = 0 := by rw [e]; rfl
    rw [List.length_take] at h0
    omega
  have := (valid_next hne hv).1
  rw [← runeW_ext this hl hne] at this
  omega
end Plain

theorem info_strR : (Tryd.prog.info? 9).map (fun i => (i.zero, i.size, i.bytes)) = some (some (.string ByteArray.empty), 1, 16) := by kernel_rfl

end Go.Proofs.YtoifnnhbejofjaaDoor
end

/- hawserref02: bad, closing, Check. -/
section
set_option linter.unusedVariables false
namespace Go.Proofs.YtoifnnhbejofjaaDoor
open Go.RowKit Plain

set_option maxHeartbeats 2000000 in
set_option maxRecDepth 100000 in
theorem bad_ref (s : List UInt8) (w : World) (hs : s.length ≤ 65536) :
    Calls Tryd.prog 66 #[.string ⟨s.toArray⟩] w (Ret w (.int .i64 (badI (badP s)))) := by
  have HVR := Lib.hid (fun (l : List UInt8) W (h : l.length ≤ 65536) => Valid_ref l W (by omega))
  have hspec := fun j h => badAt_spec s.length s 0 j (Nat.le_refl _) h
  have hbef := fun at' h1 h2 h3 => bad_before s.length s 0 at' (Nat.le_refl _) h1 h2 h3
  rw [badP_at]
  generalize hb : badAt 0 s = B at *
  have HSP := Lib.hid hspec
  have HBF := Lib.hid hbef
  clear hspec hbef hb
  go_enter Tryd.func66, Tryd.ntmps66
  go_wp2_with (fail)
  go_loopw [3] (fun t3 W => ∃ k : Nat, k ≤ s.length ∧ t3 = .int .i64 k ∧ Hid (∀ j, B = some j → k ≤ j) ∧ Hid (Below w.heap.size w W)) (fun t3 _ => s.length - (intOf t3).toNat)
  case atStart => exact ⟨0, by omega, rfl, Lib.hid (fun _ _ => Nat.zero_le _), Lib.hid (Below.refl _ _)⟩
  case round =>
    obtain ⟨k, hk, rfl, HK, HB⟩ := hrel
    have hk0 : (0 : Int) ≤ k := by omega
    by_cases hlt : k < s.length
    · have htl : (s.take k).length ≤ 65536 := by simp; omega
      have hV := HVR.out (s.take k) wr htl
      have hcut : (s.drop 0).take (k - 0) = s.take k := by simp
      cases hv : Lib.validD (s.take k) with
      | false =>
        rw [hv] at hV
        have HV := Lib.hid hV
        have HN := Lib.hid (show ∀ j, B = some j → k + 1 ≤ j from fun j h => by
          have h1 := HK.out j h
          obtain ⟨i, e1, e2, e3, e4⟩ := HSP.out j h
          by_cases e : j = k
          · exfalso
            rw [show i = k by omega, hv] at e3
            cases e3
          · omega)
        clear hV hv
        go_wp2_with (fail)
        refine HV.out.mono ?_
        rintro e w1 ⟨rfl, hw1⟩
        have HB1 := Lib.hid (HB.out.trans (hw1.mono HB.out.size))
        clear hw1
        go_wp2_with (fail)
        go_roundw
        case rel => exact ⟨k + 1, by omega, by go_num, HN, HB1⟩
        case measure => simp [intOf]; omega
      | true =>
        rw [hv] at hV
        have HV := Lib.hid hV
        have hne : s.drop k ≠ [] := by intro e; have := congrArg List.length e; simp at this; omega
        have HVV := Lib.hid hv
        clear hV hv
        by_cases h0 : runeW (s.drop k) = 0
        · -- no rune here: all tries fail
          have hbk : B = some k := by
            cases hB : B with
            | none =>
              exfalso
              have := HBF.out k hlt HVV.out (fun j h => by rw [hB] at h; cases h)
              omega
            | some j =>
              have h1 := HK.out j hB
              by_cases e : j = k
              · rw [e]
              · exfalso
                have := HBF.out k hlt HVV.out (fun j' h => by rw [hB] at h; injection h with h; omega)
                omega
          have HBK := Lib.hid hbk
          have HNV := Lib.hid (fun n (h1 : 1 ≤ n) (h2 : k + n ≤ s.length) => valid_none (l := s.drop k) h1 (by rw [List.length_drop]; omega) h0)
          clear hbk h0 hne
          go_wp2_with (fail)
          refine HV.out.mono ?_
          rintro e w1 ⟨rfl, hw1⟩
          have HB1 := Lib.hid (HB.out.trans (hw1.mono HB.out.size))
          clear hw1
          go_wp2_with (fail)
          go_loopw [4] (fun t4 W => ∃ n : Nat, 1 ≤ n ∧ n ≤ 5 ∧ k + n ≤ s.length + 1 ∧ t4 = .int .i64 n ∧ Hid (Below w.heap.size w W)) (fun t4 _ => 5 - (intOf t4).toNat)
          case atStart => exact ⟨1, by omega, by omega, by omega, rfl, HB1⟩
          case round =>
            obtain ⟨n, hn1, hn5, hkn, rfl, HB2⟩ := hrel
            have e1 : IntKind.i64.wrap ((k : Int) + (n : Int)) = (k : Int) + n := IntWalk.i64_in _ (by omega)
            have e2 : ((k : Int) + (n : Int)).toNat = k + n := by omega
            by_cases hn4 : n ≤ 4
            · have d1 : decide ((n : Int) ≤ 4) = true := by rw [decide_eq_true_eq]; omega
              have d1' : decide ((4 : Int) < (n : Int)) = false := by rw [decide_eq_false_iff_not]; omega
              by_cases hle : k + n ≤ s.length
              · have d2 : decide ((k : Int) + n ≤ (s.length : Int)) = true := by rw [decide_eq_true_eq]; omega
                have d2' : (k : Int) + n ≤ (s.length : Int) := by omega
                have hV2 := HVR.out ((s.drop k).take n) wr (by simp; omega)
                rw [HNV.out n hn1 hle] at hV2
                have HV2 := Lib.hid hV2
                have hcut2 : (s.drop k).take (k + n - k) = (s.drop k).take n := by rw [show k + n - k = n by omega]
                clear hV2
                go_wp2_with (fail)
                refine HV2.out.mono ?_
                rintro e w3 ⟨rfl, hw3⟩
                have HB3 := Lib.hid (HB2.out.trans (hw3.mono HB2.out.size))
                clear hw3
                go_wp2_with (fail)
                go_roundw
                case rel => exact ⟨n + 1, by omega, by omega, by omega, by go_num, HB3⟩
                case measure => simp [intOf]; omega
              · have d2 : decide ((k : Int) + n ≤ (s.length : Int)) = false := by rw [decide_eq_false_iff_not]; omega
                have d2' : decide ((s.length : Int) < (k : Int) + n) = true := by rw [decide_eq_true_eq]; omega
                go_wp2_with (fail)
                go_ret
                exact ⟨by rw [HBK.out]; rfl, HB2.out⟩
            · have d1 : decide ((n : Int) ≤ 4) = false := by rw [decide_eq_false_iff_not]; omega
              have d1' : decide ((4 : Int) < (n : Int)) = true := by rw [decide_eq_true_eq]; omega
              go_wp2_with (fail)
              go_ret
              exact ⟨by rw [HBK.out]; rfl, HB2.out⟩
        · -- a rune: some try does
          have hw1 : 1 ≤ runeW (s.drop k) := by omega
          have h4 := runeW_max hne hw1
          have hwl := runeW_le' hne
          rw [List.length_drop] at hwl
          have hone := valid_one hne hw1
          have HN := Lib.hid (show ∀ j, B = some j → k + 1 ≤ j from fun j h => by
            have h1 := HK.out j h
            obtain ⟨i, e1, e2, e3, e4⟩ := HSP.out j h
            by_cases e : j = k
            · exfalso
              rw [show i = k by omega] at e4
              omega
            · omega)
          generalize hm : runeW (s.drop k) = m at *
          have HONE := Lib.hid hone
          clear hone h0 hne hm
          go_wp2_with (fail)
          refine HV.out.mono ?_
          rintro e w1 ⟨rfl, hw1'⟩
          have HB1 := Lib.hid (HB.out.trans (hw1'.mono HB.out.size))
          clear hw1'
          go_wp2_with (fail)
          go_loopw [4] (fun t4 W => ∃ n : Nat, 1 ≤ n ∧ n ≤ m ∧ t4 = .int .i64 n ∧ Hid (Below w.heap.size w W)) (fun t4 _ => 5 - (intOf t4).toNat)
          case atStart => exact ⟨1, by omega, by omega, rfl, HB1⟩
          case round =>
            obtain ⟨n, hn1, hnm, rfl, HB2⟩ := hrel
            have e1 : IntKind.i64.wrap ((k : Int) + (n : Int)) = (k : Int) + n := IntWalk.i64_in _ (by omega)
            have e2 : ((k : Int) + (n : Int)).toNat = k + n := by omega
            have d1 : decide ((n : Int) ≤ 4) = true := by rw [decide_eq_true_eq]; omega
            have d1' : decide ((4 : Int) < (n : Int)) = false := by rw [decide_eq_false_iff_not]; omega
            have d2 : decide ((k : Int) + n ≤ (s.length : Int)) = true := by rw [decide_eq_true_eq]; omega
            have d2n : (k : Int) + n ≤ (s.length : Int) := by omega
            have d2' : decide ((s.length : Int) < (k : Int) + n) = false := by rw [decide_eq_false_iff_not]; omega
            have hV2 := HVR.out ((s.drop k).take n) wr (by simp; omega)
            have hcut2 : (s.drop k).take (k + n - k) = (s.drop k).take n := by rw [show k + n - k = n by omega]
            cases hvn : Lib.validD ((s.drop k).take n) with
            | true =>
              rw [hvn] at hV2
              have HV2 := Lib.hid hV2
              clear hV2 hvn
              go_wp2_with (fail)
              refine HV2.out.mono ?_
              rintro e w3 ⟨rfl, hw3⟩
              have HB3 := Lib.hid (HB2.out.trans (hw3.mono HB2.out.size))
              clear hw3
              go_wp2_with (fail)
              go_roundw
              all_goals first
                | exact ⟨k + 1, by omega, by go_num, HN, HB3⟩
                | (simp [intOf]; omega)
            | false =>
              rw [hvn] at hV2
              have HV2 := Lib.hid hV2
              have hnm2 : n < m := by
                rcases Nat.lt_or_ge n m with h | h
                · exact h
                · exfalso
                  have : n = m := by omega
                  rw [this, HONE.out] at hvn
                  cases hvn
              clear hV2 hvn
              go_wp2_with (fail)
              refine HV2.out.mono ?_
              rintro e w3 ⟨rfl, hw3⟩
              have HB3 := Lib.hid (HB2.out.trans (hw3.mono HB2.out.size))
              clear hw3
              go_wp2_with (fail)
              go_roundw
              case rel => exact ⟨n + 1, by omega, by omega, by go_num, HB3⟩
              case measure => simp [intOf]; omega
    · obtain rfl : k = s.length := by omega
      have hbn : B = none := by
        cases hB : B with
        | none => rfl
        | some j =>
          exfalso
          have h1 := HK.out j hB
          obtain ⟨i, e1, e2, _⟩ := HSP.out j hB
          omega
      have HBN := Lib.hid hbn
      clear hbn
      go_wp2_with (fail)
      go_ret
      exact ⟨by rw [HBN.out]; rfl, HB.out⟩
end Go.Proofs.YtoifnnhbejofjaaDoor
end

/- hawserref02: closing, Check. -/
section
set_option linter.unusedVariables false
namespace Go.Proofs.YtoifnnhbejofjaaDoor
open Go.RowKit Plain

namespace Plain
theorem closeS_step {s : List UInt8} {k P : Nat} (hk : k ≤ P) (h : P < s.length) : closeA (s.drop k) (P - k) =
    if s[P] = 47 then none else if s[P] = 92 then (if h2 : P + 1 < s.length then (if s[P + 1] = 47 then none else closeA (s.drop k) (P + 2 - k)) else none) else if s[P] = 93 then (if P - k = setFrom (s.drop k) then none else some (P - k)) else closeA (s.drop k) (P + 1 - k) := by
  have hl : P - k < (s.drop k).length := by simp; omega
  rw [closeA_step hl]
  have e1 : (s.drop k)[P - k] = s[P] := by rw [List.getElem_drop]; congr 1; omega
  rw [e1, show P - k + 1 = P + 1 - k by omega, show P - k + 2 = P + 2 - k by omega]
  by_cases h2 : P + 1 < s.length
  · have hl2 : P + 1 - k < (s.drop k).length := by simp; omega
    have e2 : (s.drop k)[P + 1 - k] = s[P + 1] := by rw [List.getElem_drop]; congr 1; omega
    rw [dif_pos hl2, dif_pos h2, e2]
  · rw [dif_neg (by simp; omega), dif_neg h2]
def clI (k : Nat) (o : Option Nat) : Int := match o with
  | some e => ((k + e : Nat) : Int)
  | none => -1
end Plain

set_option maxHeartbeats 2000000 in
set_option maxRecDepth 100000 in
theorem closing_ref (s : List UInt8) (k : Nat) (w : World) (hk : k < s.length) (hs : s.length ≤ 65536) :
    Calls Tryd.prog 67 #[.string ⟨s.toArray⟩, .int .i64 k] w (Ret w (.int .i64 (clI k (closeP (s.drop k))))) := by
  have hcl := closeA_closeP (s.drop k)
  have hd1 : (s.drop k).drop 1 = s.drop (k + 1) := by rw [List.drop_drop]
  obtain ⟨f, hf⟩ : ∃ f, setFrom (s.drop k) = f := ⟨_, rfl⟩
  have hfc : (f = 1 ∧ ¬ k + 1 < s.length) ∨ (f = 1 ∧ ∃ h : k + 1 < s.length, s[k + 1] ≠ 33) ∨ (f = 2 ∧ ∃ h : k + 1 < s.length, s[k + 1] = 33) := by
    rw [← hf]
    unfold setFrom
    rw [hd1]
    by_cases h : k + 1 < s.length
    · rw [List.drop_eq_getElem_cons h, List.head?_cons]
      by_cases h33 : s[k + 1] = 33
      · rw [if_pos (by rw [h33])]; exact .inr (.inr ⟨rfl, h, h33⟩)
      · rw [if_neg (by simpa using h33)]; exact .inr (.inl ⟨rfl, h, h33⟩)
    · rw [List.drop_eq_nil_of_le (by omega)]; exact .inl ⟨by simp, h⟩
  have hstep := fun P (h1 : k ≤ P) (h2 : P < s.length) => closeS_step (s := s) h1 h2
  rw [hf] at hcl hstep
  generalize closeP (s.drop k) = C at *
  generalize hG : closeA (s.drop k) = G at *
  have HCL := Lib.hid hcl
  have HST := Lib.hid hstep
  have hend := fun P (h1 : s.length ≤ P) => closeA_end (s := s.drop k) (i := P - k) (by simp; omega)
  rw [hG] at hend
  have HEND := Lib.hid hend
  have k0 : (0 : Int) ≤ k := by omega
  have e1 : IntKind.i64.wrap ((k : Int) + 1) = (k : Int) + 1 := IntWalk.i64_in _ (by omega)
  have e2 : IntKind.i64.wrap ((k : Int) + 1 + 1) = (k : Int) + 1 + 1 := IntWalk.i64_in _ (by omega)
  have e3 : ((k : Int) + 1).toNat = k + 1 := by omega
  have e4 : (0 : Int) ≤ (k : Int) + 1 := by omega
  have hfl : 1 ≤ f ∧ f ≤ 2 ∧ k + f ≤ s.length := by rcases hfc with ⟨h, _⟩ | ⟨h, h2, _⟩ | ⟨h, h2, _⟩ <;> omega
  clear hcl hstep hend hd1 hf hG
  rcases hfc with ⟨rfl, h⟩ | ⟨rfl, h, h33⟩ | ⟨rfl, h, h33⟩
  · have d1 : decide ((k : Int) + 1 < (s.length : Int)) = false := by rw [decide_eq_false_iff_not]; omega
    go_enter Tryd.func67, Tryd.ntmps67
    go_wp2_with (fail)
    clear d1
    go_loopw [6] (fun t6 W => ∃ P : Nat, k + 1 ≤ P ∧ P ≤ s.length ∧ t6 = .int .i64 P ∧ Hid (C = G (P - k)) ∧ W = w) (fun t6 _ => s.length - (intOf t6).toNat)
    case atStart => exact ⟨k + 1, by omega, by omega, rfl, Lib.hid (by rw [show k + 1 - k = 1 by omega]; exact HCL.out.symm), rfl⟩
    case round =>
      obtain ⟨P, hP1, hP2, rfl, HC, rfl⟩ := hrel
      have p0 : (0 : Int) ≤ P := by omega
      have HN := Lib.hid (HC.out.trans (HEND.out P (by omega)))
      go_wp2_with (fail)
      go_ret
      exact ⟨by rw [HN.out]; rfl, Below.refl _ _⟩
  · have d1 : (k : Int) + 1 < (s.length : Int) := by omega
    generalize hc1 : s[k + 1] = c at *
    have hq := u8_ne (n := 33) (by omega) h33
    clear h33
    go_enter Tryd.func67, Tryd.ntmps67
    go_wp2_with (fail)
    clear d1 hq hc1
    go_loopw [6] (fun t6 W => ∃ P : Nat, k + 1 ≤ P ∧ P ≤ s.length ∧ t6 = .int .i64 P ∧ Hid (C = G (P - k)) ∧ W = w) (fun t6 _ => s.length - (intOf t6).toNat)
    case atStart => exact ⟨k + 1, by omega, by omega, rfl, Lib.hid (by rw [show k + 1 - k = 1 by omega]; exact HCL.out.symm), rfl⟩
    case round =>
      obtain ⟨P, hP1, hP2, rfl, HC, rfl⟩ := hrel
      have p0 : (0 : Int) ≤ P := by omega
      by_cases hlt : P < s.length
      · have p1 : (P : Int) < s.length := by omega
        have hst := HST.out P (by omega) hlt
        have e5 : IntKind.i64.wrap ((P : Int) + 1) = (P : Int) + 1 := IntWalk.i64_in _ (by omega)
        have e6 : ((P : Int) + 1).toNat = P + 1 := by omega
        by_cases h47 : s[P] = 47
        · rw [if_pos h47] at hst
          have HN := Lib.hid (HC.out.trans hst)
          clear hst
          go_wp2_with (fail)
          go_ret
          exact ⟨by rw [HN.out]; rfl, Below.refl _ _⟩
        rw [if_neg h47] at hst
        by_cases h92 : s[P] = 92
        · rw [if_pos h92] at hst
          clear h47
          by_cases h2 : P + 1 < s.length
          · rw [dif_pos h2] at hst
            have d2 : decide ((s.length : Int) ≤ (P : Int) + 1) = false := by rw [decide_eq_false_iff_not]; omega
            have d3 : (P : Int) + 1 < s.length := by omega
            by_cases h47 : s[P + 1] = 47
            · rw [if_pos h47] at hst
              have HN := Lib.hid (HC.out.trans hst)
              clear hst
              go_wp2_with (fail)
              go_ret
              exact ⟨by rw [HN.out]; rfl, Below.refl _ _⟩
            · rw [if_neg h47] at hst
              have HN := Lib.hid (HC.out.trans hst)
              generalize hd : s[P + 1] = d at *
              have h47' := u8_ne (n := 47) (by omega) h47
              clear hst h47
              go_wp2_with (fail)
              go_roundw
              case rel => exact ⟨P + 2, by omega, by omega, by go_num, HN, by first | trivial | rfl⟩
              case measure => simp [intOf]; omega
          · rw [dif_neg h2] at hst
            have d2 : decide ((s.length : Int) ≤ (P : Int) + 1) = true := by rw [decide_eq_true_eq]; omega
            have HN := Lib.hid (HC.out.trans hst)
            clear hst
            go_wp2_with (fail)
            go_ret
            exact ⟨by rw [HN.out]; rfl, Below.refl _ _⟩
        rw [if_neg h92] at hst
        by_cases h93 : s[P] = 93
        · rw [if_pos h93] at hst
          clear h47 h92
          by_cases hPf : P - k = 1
          · rw [if_pos hPf] at hst
            have d2 : ((P : Int) == ((k + 1 : Nat) : Int)) = true := by rw [beq_iff_eq]; omega
            have d2' : ((P : Int) == (k : Int) + 1) = true := by rw [beq_iff_eq]; omega
            have HN := Lib.hid (HC.out.trans hst)
            clear hst hPf
            go_wp2_with (fail)
            go_ret
            exact ⟨by rw [HN.out]; rfl, Below.refl _ _⟩
          · rw [if_neg hPf] at hst
            have d2 : ((P : Int) == ((k + 1 : Nat) : Int)) = false := by rw [beq_eq_false_iff_ne]; omega
            have d2' : ((P : Int) == (k : Int) + 1) = false := by rw [beq_eq_false_iff_ne]; omega
            have HN := Lib.hid (HC.out.trans hst)
            have HKP := Lib.hid (show ((k + (P - k) : Nat) : Int) = P by omega)
            clear hst hPf
            go_wp2_with (fail)
            go_ret
            exact ⟨by rw [HN.out]; show _ = Ending.returned (.int .i64 ((k + (P - k) : Nat) : Int)); rw [HKP.out]; rfl, Below.refl _ _⟩
        · rw [if_neg h93] at hst
          have HN := Lib.hid (HC.out.trans hst)
          generalize hc : s[P] = c at *
          have h47' := u8_ne (n := 47) (by omega) h47
          have h92' := u8_ne (n := 92) (by omega) h92
          have h93' := u8_ne (n := 93) (by omega) h93
          clear hst h47 h92 h93
          go_wp2_with (fail)
          go_roundw
          case rel => exact ⟨P + 1, by omega, by omega, by go_num, HN, by first | trivial | rfl⟩
          case measure => simp [intOf]; omega
      · have HN := Lib.hid (HC.out.trans (HEND.out P (by omega)))
        go_wp2_with (fail)
        go_ret
        exact ⟨by rw [HN.out]; rfl, Below.refl _ _⟩
  · have d1 : (k : Int) + 1 < (s.length : Int) := by omega
    go_enter Tryd.func67, Tryd.ntmps67
    go_wp2_with (fail)
    clear d1 h33
    go_loopw [6] (fun t6 W => ∃ P : Nat, k + 2 ≤ P ∧ P ≤ s.length ∧ t6 = .int .i64 P ∧ Hid (C = G (P - k)) ∧ W = w) (fun t6 _ => s.length - (intOf t6).toNat)
    case atStart => exact ⟨k + 2, by omega, by omega, rfl, Lib.hid (by rw [show k + 2 - k = 2 by omega]; exact HCL.out.symm), rfl⟩
    case round =>
      obtain ⟨P, hP1, hP2, rfl, HC, rfl⟩ := hrel
      have p0 : (0 : Int) ≤ P := by omega
      by_cases hlt : P < s.length
      · have p1 : (P : Int) < s.length := by omega
        have hst := HST.out P (by omega) hlt
        have e5 : IntKind.i64.wrap ((P : Int) + 1) = (P : Int) + 1 := IntWalk.i64_in _ (by omega)
        have e6 : ((P : Int) + 1).toNat = P + 1 := by omega
        by_cases h47 : s[P] = 47
        · rw [if_pos h47] at hst
          have HN := Lib.hid (HC.out.trans hst)
          clear hst
          go_wp2_with (fail)
          go_ret
          exact ⟨by rw [HN.out]; rfl, Below.refl _ _⟩
        rw [if_neg h47] at hst
        by_cases h92 : s[P] = 92
        · rw [if_pos h92] at hst
          clear h47
          by_cases h2 : P + 1 < s.length
          · rw [dif_pos h2] at hst
            have d2 : decide ((s.length : Int) ≤ (P : Int) + 1) = false := by rw [decide_eq_false_iff_not]; omega
            have d3 : (P : Int) + 1 < s.length := by omega
            by_cases h47 : s[P + 1] = 47
            · rw [if_pos h47] at hst
              have HN := Lib.hid (HC.out.trans hst)
              clear hst
              go_wp2_with (fail)
              go_ret
              exact ⟨by rw [HN.out]; rfl, Below.refl _ _⟩
            · rw [if_neg h47] at hst
              have HN := Lib.hid (HC.out.trans hst)
              generalize hd : s[P + 1] = d at *
              have h47' := u8_ne (n := 47) (by omega) h47
              clear hst h47
              go_wp2_with (fail)
              go_roundw
              case rel => exact ⟨P + 2, by omega, by omega, by go_num, HN, by first | trivial | rfl⟩
              case measure => simp [intOf]; omega
          · rw [dif_neg h2] at hst
            have d2 : decide ((s.length : Int) ≤ (P : Int) + 1) = true := by rw [decide_eq_true_eq]; omega
            have HN := Lib.hid (HC.out.trans hst)
            clear hst
            go_wp2_with (fail)
            go_ret
            exact ⟨by rw [HN.out]; rfl, Below.refl _ _⟩
        rw [if_neg h92] at hst
        by_cases h93 : s[P] = 93
        · rw [if_pos h93] at hst
          clear h47 h92
          by_cases hPf : P - k = 2
          · rw [if_pos hPf] at hst
            have d2 : ((P : Int) == ((k + 2 : Nat) : Int)) = true := by rw [beq_iff_eq]; omega
            have d2' : ((P : Int) == (k : Int) + 2) = true := by rw [beq_iff_eq]; omega
            have HN := Lib.hid (HC.out.trans hst)
            clear hst hPf
            go_wp2_with (fail)
            go_ret
            exact ⟨by rw [HN.out]; rfl, Below.refl _ _⟩
          · rw [if_neg hPf] at hst
            have d2 : ((P : Int) == ((k + 2 : Nat) : Int)) = false := by rw [beq_eq_false_iff_ne]; omega
            have d2' : ((P : Int) == (k : Int) + 2) = false := by rw [beq_eq_false_iff_ne]; omega
            have HN := Lib.hid (HC.out.trans hst)
            have HKP := Lib.hid (show ((k + (P - k) : Nat) : Int) = P by omega)
            clear hst hPf
            go_wp2_with (fail)
            go_ret
            exact ⟨by rw [HN.out]; show _ = Ending.returned (.int .i64 ((k + (P - k) : Nat) : Int)); rw [HKP.out]; rfl, Below.refl _ _⟩
        · rw [if_neg h93] at hst
          have HN := Lib.hid (HC.out.trans hst)
          generalize hc : s[P] = c at *
          have h47' := u8_ne (n := 47) (by omega) h47
          have h92' := u8_ne (n := 92) (by omega) h92
          have h93' := u8_ne (n := 93) (by omega) h93
          clear hst h47 h92 h93
          go_wp2_with (fail)
          go_roundw
          case rel => exact ⟨P + 1, by omega, by omega, by go_num, HN, by first | trivial | rfl⟩
          case measure => simp [intOf]; omega
      · have HN := Lib.hid (HC.out.trans (HEND.out P (by omega)))
        go_wp2_with (fail)
        go_ret
        exact ⟨by rw [HN.out]; rfl, Below.refl _ _⟩

set_option maxHeartbeats 2000000 in
set_option maxRecDepth 100000 in
theorem Check_ref (s : List UInt8) (w : World) :
    Calls Tryd.prog 44 #[.string ⟨s.toArray⟩] w (Ret w (.tuple #[.int .i64 (checkP 400 s).1, .int .i64 (checkP 400 s).2])) := by
  by_cases h0 : s = []
  · subst h0
    have HC := Lib.hid (checkP_long (m := 400) (s := []) (.inl rfl))
    go_enter Tryd.func44, Tryd.ntmps44
    go_wp2_with (fail)
    go_ret2
    exact ⟨by rw [HC.out]; rfl, Below.refl _ _⟩
  have hse : s.isEmpty = false := by cases s; exact absurd rfl h0; rfl
  by_cases h4 : 400 < s.length
  · have HC := Lib.hid (checkP_long (m := 400) (s := s) (.inr h4))
    have h4' : decide ((400 : Int) < (s.length : Int)) = true := by rw [decide_eq_true_eq]; omega
    clear h0 h4
    go_enter Tryd.func44, Tryd.ntmps44
    go_wp2_with (fail)
    go_ret2
    exact ⟨by rw [HC.out]; rfl, Below.refl _ _⟩
  have h4' : decide ((400 : Int) < (s.length : Int)) = false := by rw [decide_eq_false_iff_not]; omega
  have hno : ¬ (s = [] ∨ 400 < s.length) := by rintro (h | h); exact h0 h; exact h4 h
  have hbad := bad_ref s w (by omega)
  cases hb : badP s with
  | some k =>
    rw [hb] at hbad
    have HC := Lib.hid (checkP_bad hno hb)
    have hk0 : decide ((0 : Int) ≤ (k : Int)) = true := by simp
    have HI := Lib.hid hbad
    clear hbad hno h0 hb
    go_enter Tryd.func44, Tryd.ntmps44
    go_wp2_with (fail)
    refine HI.out.mono ?_
    rintro e w1 ⟨rfl, hw1⟩
    go_wp2_with (fail)
    go_ret2
    exact ⟨by rw [HC.out]; rfl, hw1⟩
  | none =>
    rw [hb] at hbad
    have HC := Lib.hid (checkP_loop hno hb)
    have HI := Lib.hid hbad
    have HCL := Lib.hid (fun (k : Nat) W (h : k < s.length) => closing_ref s k W h (by omega))
    have hs400 : s.length ≤ 400 := by omega
    clear hbad hno h0 hb h4
    go_enter Tryd.func44, Tryd.ntmps44
    go_wp2_with (fail)
    refine HI.out.mono ?_
    rintro e w1 ⟨rfl, hw1⟩
    have HB1 := Lib.hid hw1
    clear hw1
    go_wp2_with (fail)
    go_loopw [5, 6] (fun t5 t6 W => ∃ (k : Nat) (b : Bool), k ≤ s.length ∧ t6 = .int .i64 k ∧ t5 = .bool b ∧ Hid (checkP 400 s = loopA k b (s.drop k)) ∧ Hid (Below w.heap.size w W)) (fun _ t6 _ => s.length - (intOf t6).toNat)
    case atStart => exact ⟨0, false, by omega, rfl, rfl, Lib.hid (by rw [HC.out]; rfl), HB1⟩
    case round =>
      obtain ⟨k, b, hk, rfl, rfl, HE, HB⟩ := hrel
      have k0 : (0 : Int) ≤ k := by omega
      have e1 : IntKind.i64.wrap ((s.length : Int) - 1) = (s.length : Int) - 1 := IntWalk.i64_in _ (by omega)
      by_cases hlt : k < s.length
      · have k1 : (k : Int) < s.length := by omega
        have hdc := List.drop_eq_getElem_cons hlt
        have e5 : IntKind.i64.wrap ((k : Int) + 1) = (k : Int) + 1 := IntWalk.i64_in _ (by omega)
        have e6 : ((k : Int) + 1).toNat = k + 1 := by omega
        have e7 : (0 : Int) ≤ (k : Int) + 1 := by omega
        have hE := HE.out
        rw [hdc] at hE
        by_cases h47 : s[k] = 47
        · rw [h47, loopA_slash] at hE
          cases b with
          | false =>
            rw [if_pos (.inl rfl)] at hE
            have HZ := Lib.hid hE
            clear hE hdc HE
            go_wp2_with (fail)
            go_ret2
            exact ⟨by rw [HZ.out]; rfl, HB.out⟩
          | true =>
            by_cases hl : k = s.length - 1
            · rw [if_pos (.inr (List.drop_eq_nil_of_le (by omega)))] at hE
              have HZ := Lib.hid hE
              have d1 : ((k : Int) == (s.length : Int) - 1) = true := by rw [beq_iff_eq]; omega
              clear hE hdc HE hl
              go_wp2_with (fail)
              go_ret2
              exact ⟨by rw [HZ.out]; rfl, HB.out⟩
            · rw [if_neg (by
                rintro (h | h)
                · cases h
                · rw [List.drop_eq_nil_iff] at h; omega)] at hE
              have HZ := Lib.hid hE
              have d1 : ((k : Int) == (s.length : Int) - 1) = false := by rw [beq_eq_false_iff_ne]; omega
              clear hE hdc HE hl
              go_wp2_with (fail)
              go_roundw
              case rel => exact ⟨k + 1, false, by omega, by go_num, rfl, HZ, HB⟩
              case measure => simp [intOf]; omega
        by_cases h92 : s[k] = 92
        · rw [h92] at hE
          clear h47
          by_cases h2 : k + 1 < s.length
          · have d1 : ((k : Int) == (s.length : Int) - 1) = false := by rw [beq_eq_false_iff_ne]; omega
            have d3 : (k : Int) + 1 < s.length := by omega
            rw [List.drop_eq_getElem_cons h2, loopA_back] at hE
            by_cases h47 : s[k + 1] = 47
            · rw [if_pos h47] at hE
              have HZ := Lib.hid hE
              clear hE hdc HE
              go_wp2_with (fail)
              go_ret2
              exact ⟨by rw [HZ.out]; rfl, HB.out⟩
            · rw [if_neg h47] at hE
              have HZ := Lib.hid hE
              generalize hd : s[k + 1] = d at *
              have h47' := u8_ne (n := 47) (by omega) h47
              clear hE hdc HE h47
              go_wp2_with (fail)
              go_roundw
              case rel => exact ⟨k + 2, true, by omega, by go_num, rfl, HZ, HB⟩
              case measure => simp [intOf]; omega
          · have d1 : ((k : Int) == (s.length : Int) - 1) = true := by rw [beq_iff_eq]; omega
            rw [List.drop_eq_nil_of_le (by omega), loopA_back0] at hE
            have HZ := Lib.hid hE
            clear hE hdc HE
            go_wp2_with (fail)
            go_ret2
            exact ⟨by rw [HZ.out]; rfl, HB.out⟩
        by_cases h91 : s[k] = 91
        · have hcl := HCL.out k wr hlt
          rw [hdc, h91] at hcl
          rw [h91] at hE
          clear h47 h92
          cases hc : closeP (91 :: s.drop (k + 1)) with
          | none =>
            rw [loopA_set_none hc] at hE
            rw [hc] at hcl
            have HZ := Lib.hid hE
            have HCC := Lib.hid hcl
            clear hE hdc HE hcl hc
            go_wp2_with (fail)
            refine HCC.out.mono ?_
            rintro e w2 ⟨rfl, hw2⟩
            go_wp2_with (fail)
            go_ret2
            exact ⟨by rw [HZ.out]; rfl, HB.out.trans (hw2.mono HB.out.size)⟩
          | some e =>
            rw [loopA_set_some hc] at hE
            rw [hc] at hcl
            have hel : e < (91 :: s.drop (k + 1)).length := by
              have h1 : setFrom (91 :: s.drop (k + 1)) ≤ e ∧ e < setFrom (91 :: s.drop (k + 1)) + ((91 :: s.drop (k + 1)).drop (setFrom (91 :: s.drop (k + 1)))).length ∧ e ≠ setFrom (91 :: s.drop (k + 1)) ∧ ((91 :: s.drop (k + 1)).drop (setFrom (91 :: s.drop (k + 1)))).getD (e - setFrom (91 :: s.drop (k + 1))) 0 = 93 := closeF_le _ _ _ _ _ (Nat.le_refl _) hc
              have h2 := h1.2.1
              rw [List.length_drop] at h2
              omega
            simp only [List.length_cons, List.length_drop] at hel
            have hdd : (91 :: s.drop (k + 1)).drop (e + 1) = s.drop (k + e + 1) := by rw [List.drop_succ_cons, List.drop_drop]; congr 1; omega
            rw [hdd] at hE
            have HZ := Lib.hid hE
            have HCC := Lib.hid hcl
            have d5 : decide ((((k + e : Nat)) : Int) < 0) = false := by rw [decide_eq_false_iff_not]; omega
            have d6 : decide ((k : Int) + (e : Int) < 0) = false := by rw [decide_eq_false_iff_not]; omega
            clear hE hdc HE hcl hc hdd
            go_wp2_with (fail)
            refine HCC.out.mono ?_
            rintro e' w2 ⟨rfl, hw2⟩
            have HB2 := Lib.hid (HB.out.trans (hw2.mono HB.out.size))
            clear hw2
            simp only [clI]
            go_wp2_with (fail)
            go_roundw
            case rel => exact ⟨k + e + 1, true, by omega, by go_num, rfl, HZ, HB2⟩
            case measure => simp [intOf]; omega
        · rw [loopA_one h47 h92 h91] at hE
          have HZ := Lib.hid hE
          generalize hc : s[k] = c at *
          have h47' := u8_ne (n := 47) (by omega) h47
          have h92' := u8_ne (n := 92) (by omega) h92
          have h91' := u8_ne (n := 91) (by omega) h91
          clear hE hdc HE h47 h92 h91
          go_wp2_with (fail)
          go_roundw
          case rel => exact ⟨k + 1, true, by omega, by go_num, rfl, HZ, HB⟩
          case measure => simp [intOf]; omega
      · obtain rfl : k = s.length := by omega
        have hE := HE.out
        rw [List.drop_length, loopA_nil] at hE
        have HZ := Lib.hid hE
        clear hE HE
        go_wp2_with (fail)
        go_ret2
        exact ⟨by rw [HZ.out]; rfl, HB.out⟩
end Go.Proofs.YtoifnnhbejofjaaDoor
end
