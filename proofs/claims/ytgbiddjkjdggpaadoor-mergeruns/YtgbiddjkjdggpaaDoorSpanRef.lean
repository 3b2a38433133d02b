/- hawserref17.span. -/
import Derived.Test.YtgbiddjkjdggpaaDoorLines
import Derived.Test.YtgbiddjkjdggpaaDoorPlainMerge
import Derived.Deep.QuietTactic
import Derived.BigQuiet
namespace Go.Proofs.YtgbiddjkjdggpaaDoor
open Go.RowKit Plain

set_option maxHeartbeats 4000000 in
theorem span_any (A B : Option Addr) (ca cb : Nat) (o a : List (List UInt8)) (w : World) (ho : Reads w 1 A o.length (strs o)) (ha : Reads w 1 B a.length (strs a)) (h63 : o.length ≤ 4294967296) (h63' : a.length ≤ 4294967296) :
    Calls Tryd.prog 30 #[.slice A o.length ca, .slice B a.length cb] w (Ret w (.tuple #[.int .i64 (pre o a), .int .i64 ((o.length : Int) - suf o a), .int .i64 ((a.length : Int) - suf o a)])) := by
  obtain ⟨m0, hm0⟩ : ∃ m0, m0 = min o.length a.length := ⟨_, rfl⟩
  have hmo : m0 ≤ o.length := by omega
  have hma : m0 ≤ a.length := by omega
  have HM0 := Lib.hid hm0
  clear hm0
  go_enter Tryd.func30, Tryd.ntmps30
  go_wp2_with (fail)
  go_loopw [7] (fun t7 W => ∃ k : Nat, k ≤ m0 ∧ t7 = .int .i64 k ∧ Hid (∀ j, j < k → o[j]? = a[j]?) ∧ Hid (Below w.heap.size w W)) (fun t7 _ => o.length - (intOf t7).toNat)
  case atStart => exact ⟨0, by omega, rfl, Lib.hid (fun j hj => by omega), Lib.hid (Below.refl _ _)⟩
  case round =>
    obtain ⟨k, hk, rfl, HT, HB⟩ := hrel
    have hbel := HB.out
    have i1 : (0 : Int) ≤ k := by omega
    by_cases hst : ∃ (h1 : k < o.length) (h2 : k < a.length), o[k] = a[k]
    · obtain ⟨h1, h2, he⟩ := hst
      have hkm : k < m0 := by have := HM0.out; omega
      obtain ⟨ad, rfl, cA⟩ := (ho.below hbel).str_at h1
      obtain ⟨bd, rfl, cB⟩ := (ha.below hbel).str_at h2
      have hg1 : o[k]? = a[k]? := by rw [List.getElem?_eq_getElem h1, List.getElem?_eq_getElem h2, he]
      rw [← he] at cB
      generalize o[k] = s at *
      have dO : decide ((k : Int) < o.length) = true := by simp; omega
      have dOn : decide (k < o.length) = true := by simp; omega
      have dA : decide ((k : Int) < a.length) = true := by simp; omega
      have dAn : decide (k < a.length) = true := by simp; omega
      have i2 : (k : Int) < o.length := by omega
      have i3 : (k : Int) < a.length := by omega
      have HG1 := Lib.hid hg1
      clear hg1 hbel he
      go_wp2_with (fail)
      go_quiet (fail)
      go_wp2_with (fail)
      go_roundw
      case rel => exact ⟨k + 1, by omega, by go_num, Lib.hid (fun j hj => by
        by_cases e : j = k
        · rw [e]; exact HG1.out
        · exact HT.out j (by omega)), Lib.hid (below_drewN HB.out _)⟩
      case measure => simp [intOf]; omega
    · have hp : pre o a = k := by
        rcases Nat.lt_or_ge k m0 with h | h
        · exact pre_at o a k (by omega) (by omega) HT.out (fun e => hst ⟨by omega, by omega, e⟩)
        · have hkm : k = min o.length a.length := by have := HM0.out; omega
          rw [hkm]; exact pre_all o a (fun j hj => HT.out j (by omega))
      have HP := Lib.hid hp
      by_cases hlt : k < m0
      · obtain ⟨ad, rfl, cA⟩ := (ho.below hbel).str_at (show k < o.length by omega)
        obtain ⟨bd, rfl, cB⟩ := (ha.below hbel).str_at (show k < a.length by omega)
        have hne : (o[k]'(by omega) == a[k]'(by omega)) = false := by simpa using fun e => hst ⟨by omega, by omega, e⟩
        generalize o[k]'(by omega) = s at *
        generalize a[k]'(by omega) = t at *
        have dO : decide ((k : Int) < o.length) = true := by simp; omega
        have dOn : decide (k < o.length) = true := by simp; omega
        have dA : decide ((k : Int) < a.length) = true := by simp; omega
        have dAn : decide (k < a.length) = true := by simp; omega
        have i2 : (k : Int) < o.length := by omega
        have i3 : (k : Int) < a.length := by omega
        clear hbel hst hp
        go_wp2_with (fail)
        go_quiet (fail)
        go_wp2_with (fail)
        go_loopw [8] (fun t8 W => ∃ q : Nat, q ≤ m0 - k ∧ t8 = .int .i64 q ∧ Hid (∀ j, j < q → o[o.length - 1 - j]? = a[a.length - 1 - j]?) ∧ Hid (Below w.heap.size w W)) (fun t8 _ => m0 - k - (intOf t8).toNat)
        case atStart => exact ⟨0, by omega, rfl, Lib.hid (fun j hj => by omega), Lib.hid (below_drewN HB.out _)⟩
        case round =>
          clear HB
          obtain ⟨q, hq, rfl, HQ, HB⟩ := hrel
          have hbel := HB.out
          have i0 : (0 : Int) ≤ q := by omega
          by_cases hst2 : ∃ (h0 : q < m0 - k) (h1 : o.length - 1 - q < o.length) (h2 : a.length - 1 - q < a.length), o[o.length - 1 - q] = a[a.length - 1 - q]
          · obtain ⟨h0, h1, h2, he⟩ := hst2
            obtain ⟨ad2, hA2, cA2⟩ := (ho.below hbel).str_at h1
            obtain ⟨bd2, hB2, cB2⟩ := (ha.below hbel).str_at h2
            injection hA2 with hA2
            subst hA2
            injection hB2 with hB2
            subst hB2
            have hg1 : o[o.length - 1 - q]? = a[a.length - 1 - q]? := by rw [List.getElem?_eq_getElem h1, List.getElem?_eq_getElem h2, he]
            rw [← he] at cB2
            generalize o[o.length - 1 - q] = s2 at *
            have HG1 := Lib.hid hg1
            clear hg1 hbel he
            have dO2 : decide ((q : Int) < (o.length : Int) - k) = true := by simp; omega
            have e0 : IntKind.i64.wrap ((o.length : Int) - k) = (o.length : Int) - k := IntWalk.i64_in _ (by omega)
            have dA2 : decide ((q : Int) < (a.length : Int) - k) = true := by simp; omega
            have e0' : IntKind.i64.wrap ((a.length : Int) - k) = (a.length : Int) - k := IntWalk.i64_in _ (by omega)
            have n1 : ((o.length : Int) - 1 - q).toNat = o.length - 1 - q := by omega
            have n2 : ((a.length : Int) - 1 - q).toNat = a.length - 1 - q := by omega
            have p1 : 0 ≤ ((o.length : Int) - 1 - q) := by omega
            have p2 : 0 ≤ ((a.length : Int) - 1 - q) := by omega
            have r1 : ((o.length : Int) - 1 - q) < o.length := by omega
            have r2 : ((a.length : Int) - 1 - q) < a.length := by omega
            have e1 : IntKind.i64.wrap ((o.length : Int) - 1) = (o.length : Int) - 1 := IntWalk.i64_in _ (by omega)
            have e2 : IntKind.i64.wrap ((a.length : Int) - 1) = (a.length : Int) - 1 := IntWalk.i64_in _ (by omega)
            have e3 : IntKind.i64.wrap ((o.length : Int) - 1 - q) = (o.length : Int) - 1 - q := IntWalk.i64_in _ (by omega)
            have e4 : IntKind.i64.wrap ((a.length : Int) - 1 - q) = (a.length : Int) - 1 - q := IntWalk.i64_in _ (by omega)
            go_wp2_with (fail)
            go_quiet (fail)
            clear e0 e0' e1 e2 e3 e4
            go_wp2_with (fail)
            go_roundw
            case rel => exact ⟨q + 1, by omega, by go_num, Lib.hid (fun j hj => by
              by_cases e : j = q
              · rw [e]; exact HG1.out
              · exact HQ.out j (by omega)), Lib.hid (below_drewN HB.out _)⟩
            case measure => simp [intOf]; omega
          · have hs : suf o a = q := by
              have hk1 := HP.out
              have hle := pre_le o a
              unfold suf
              rw [hk1]
              have hall : ∀ j, j < q → (o.drop k).reverse[j]? = (a.drop k).reverse[j]? := fun j hj => by
                rw [rev_get o k j (by omega), rev_get a k j (by omega)]; exact HQ.out j hj
              rcases Nat.lt_or_ge q (m0 - k) with h | h
              · refine pre_at _ _ q (by simp; omega) (by simp; omega) hall (fun e => hst2 ⟨h, by omega, by omega, ?_⟩)
                have e1 := rev_get o k q (by omega)
                have e2 := rev_get a k q (by omega)
                rw [List.getElem?_eq_getElem (by simp; omega), List.getElem?_eq_getElem (by omega)] at e1 e2
                injection e1 with e1
                injection e2 with e2
                rw [← e1, ← e2]; exact e
              · have hq' : q = min (o.drop k).reverse.length (a.drop k).reverse.length := by have := HM0.out; simp; omega
                rw [hq']; exact pre_all _ _ (fun j hj => hall j (by omega))
            have HS := Lib.hid hs
            clear hs
            by_cases hlq : q < m0 - k
            · obtain ⟨ad2, hA2, cA2⟩ := (ho.below hbel).str_at (show o.length - 1 - q < o.length by omega)
              obtain ⟨bd2, hB2, cB2⟩ := (ha.below hbel).str_at (show a.length - 1 - q < a.length by omega)
              injection hA2 with hA2
              subst hA2
              injection hB2 with hB2
              subst hB2
              have hne2 : (o[o.length - 1 - q]'(by omega) == a[a.length - 1 - q]'(by omega)) = false := by simpa using fun e => hst2 ⟨hlq, by omega, by omega, e⟩
              generalize o[o.length - 1 - q]'(by omega) = s2 at *
              generalize a[a.length - 1 - q]'(by omega) = t2 at *
              clear hst2 hbel
              have dO2 : decide ((q : Int) < (o.length : Int) - k) = true := by simp; omega
              have e0 : IntKind.i64.wrap ((o.length : Int) - k) = (o.length : Int) - k := IntWalk.i64_in _ (by omega)
              have dA2 : decide ((q : Int) < (a.length : Int) - k) = true := by simp; omega
              have e0' : IntKind.i64.wrap ((a.length : Int) - k) = (a.length : Int) - k := IntWalk.i64_in _ (by omega)
              have n1 : ((o.length : Int) - 1 - q).toNat = o.length - 1 - q := by omega
              have n2 : ((a.length : Int) - 1 - q).toNat = a.length - 1 - q := by omega
              have p1 : 0 ≤ ((o.length : Int) - 1 - q) := by omega
              have p2 : 0 ≤ ((a.length : Int) - 1 - q) := by omega
              have r1 : ((o.length : Int) - 1 - q) < o.length := by omega
              have r2 : ((a.length : Int) - 1 - q) < a.length := by omega
              have e1 : IntKind.i64.wrap ((o.length : Int) - 1) = (o.length : Int) - 1 := IntWalk.i64_in _ (by omega)
              have e2 : IntKind.i64.wrap ((a.length : Int) - 1) = (a.length : Int) - 1 := IntWalk.i64_in _ (by omega)
              have e3 : IntKind.i64.wrap ((o.length : Int) - 1 - q) = (o.length : Int) - 1 - q := IntWalk.i64_in _ (by omega)
              have e4 : IntKind.i64.wrap ((a.length : Int) - 1 - q) = (a.length : Int) - 1 - q := IntWalk.i64_in _ (by omega)
              go_wp2_with (fail)
              go_quiet (fail)
              clear e0 e0' e1 e2 e3 e4 n1 n2 cA2 cB2 hne2
              go_wp2_with (fail)
              go_ret3
              exact ⟨by rw [HP.out, HS.out]; rfl, below_drewN HB.out _⟩
            · clear hst2 hbel
              by_cases hlo : q < o.length - k
              · have hm := HM0.out
                have dO2 : decide ((q : Int) < (o.length : Int) - k) = true := by simp; omega
                have e0 : IntKind.i64.wrap ((o.length : Int) - k) = (o.length : Int) - k := IntWalk.i64_in _ (by omega)
                have dA2 : decide ((q : Int) < (a.length : Int) - k) = false := by simp; omega
                have e0' : IntKind.i64.wrap ((a.length : Int) - k) = (a.length : Int) - k := IntWalk.i64_in _ (by omega)
                clear hm
                go_wp2_with (fail)
                go_quiet (fail)
                clear e0
                go_wp2_with (fail)
                go_ret3
                exact ⟨by rw [HP.out, HS.out]; rfl, below_drewN HB.out _⟩
              · have dO2 : decide ((q : Int) < (o.length : Int) - k) = false := by simp; omega
                have e0 : IntKind.i64.wrap ((o.length : Int) - k) = (o.length : Int) - k := IntWalk.i64_in _ (by omega)
                go_wp2_with (fail)
                go_quiet (fail)
                clear e0
                go_wp2_with (fail)
                go_ret3
                exact ⟨by rw [HP.out, HS.out]; rfl, below_drewN HB.out _⟩
      · by_cases hlo : k < o.length
        · have hm := HM0.out
          have dO : decide ((k : Int) < o.length) = true := by simp; omega
          have dOn : decide (k < o.length) = true := by simp; omega
          have dA : decide ((k : Int) < a.length) = false := by simp; omega
          have dAn : decide (k < a.length) = false := by simp; omega
          clear hbel hst hp hm
          go_wp2_with (fail)
          go_quiet (fail)
          go_wp2_with (fail)
          go_loopw [8] (fun t8 W => ∃ q : Nat, q ≤ m0 - k ∧ t8 = .int .i64 q ∧ Hid (∀ j, j < q → o[o.length - 1 - j]? = a[a.length - 1 - j]?) ∧ Hid (Below w.heap.size w W)) (fun t8 _ => m0 - k - (intOf t8).toNat)
          case atStart => exact ⟨0, by omega, rfl, Lib.hid (fun j hj => by omega), Lib.hid (below_drewN HB.out _)⟩
          case round =>
            clear HB
            obtain ⟨q, hq, rfl, HQ, HB⟩ := hrel
            have hbel := HB.out
            have i0 : (0 : Int) ≤ q := by omega
            by_cases hst2 : ∃ (h0 : q < m0 - k) (h1 : o.length - 1 - q < o.length) (h2 : a.length - 1 - q < a.length), o[o.length - 1 - q] = a[a.length - 1 - q]
            · exfalso
              obtain ⟨h0, h1, h2, he⟩ := hst2
              omega
            · have hs : suf o a = q := by
                have hk1 := HP.out
                have hle := pre_le o a
                unfold suf
                rw [hk1]
                have hall : ∀ j, j < q → (o.drop k).reverse[j]? = (a.drop k).reverse[j]? := fun j hj => by
                  rw [rev_get o k j (by omega), rev_get a k j (by omega)]; exact HQ.out j hj
                rcases Nat.lt_or_ge q (m0 - k) with h | h
                · refine pre_at _ _ q (by simp; omega) (by simp; omega) hall (fun e => hst2 ⟨h, by omega, by omega, ?_⟩)
                  have e1 := rev_get o k q (by omega)
                  have e2 := rev_get a k q (by omega)
                  rw [List.getElem?_eq_getElem (by simp; omega), List.getElem?_eq_getElem (by omega)] at e1 e2
                  injection e1 with e1
                  injection e2 with e2
                  rw [← e1, ← e2]; exact e
                · have hq' : q = min (o.drop k).reverse.length (a.drop k).reverse.length := by have := HM0.out; simp; omega
                  rw [hq']; exact pre_all _ _ (fun j hj => hall j (by omega))
              have HS := Lib.hid hs
              clear hs
              by_cases hlq : q < m0 - k
              · exfalso; omega
              · clear hst2 hbel
                by_cases hlo : q < o.length - k
                · have hm := HM0.out
                  have dO2 : decide ((q : Int) < (o.length : Int) - k) = true := by simp; omega
                  have e0 : IntKind.i64.wrap ((o.length : Int) - k) = (o.length : Int) - k := IntWalk.i64_in _ (by omega)
                  have dA2 : decide ((q : Int) < (a.length : Int) - k) = false := by simp; omega
                  have e0' : IntKind.i64.wrap ((a.length : Int) - k) = (a.length : Int) - k := IntWalk.i64_in _ (by omega)
                  clear hm
                  go_wp2_with (fail)
                  go_quiet (fail)
                  clear e0
                  go_wp2_with (fail)
                  go_ret3
                  exact ⟨by rw [HP.out, HS.out]; rfl, below_drewN HB.out _⟩
                · have dO2 : decide ((q : Int) < (o.length : Int) - k) = false := by simp; omega
                  have e0 : IntKind.i64.wrap ((o.length : Int) - k) = (o.length : Int) - k := IntWalk.i64_in _ (by omega)
                  go_wp2_with (fail)
                  go_quiet (fail)
                  clear e0
                  go_wp2_with (fail)
                  go_ret3
                  exact ⟨by rw [HP.out, HS.out]; rfl, below_drewN HB.out _⟩
        · have dO : decide ((k : Int) < o.length) = false := by simp; omega
          have dOn : decide (k < o.length) = false := by simp; omega
          clear hbel hst hp
          go_wp2_with (fail)
          go_quiet (fail)
          go_wp2_with (fail)
          go_loopw [8] (fun t8 W => ∃ q : Nat, q ≤ m0 - k ∧ t8 = .int .i64 q ∧ Hid (∀ j, j < q → o[o.length - 1 - j]? = a[a.length - 1 - j]?) ∧ Hid (Below w.heap.size w W)) (fun t8 _ => m0 - k - (intOf t8).toNat)
          case atStart => exact ⟨0, by omega, rfl, Lib.hid (fun j hj => by omega), Lib.hid (below_drewN HB.out _)⟩
          case round =>
            clear HB
            obtain ⟨q, hq, rfl, HQ, HB⟩ := hrel
            have hbel := HB.out
            have i0 : (0 : Int) ≤ q := by omega
            by_cases hst2 : ∃ (h0 : q < m0 - k) (h1 : o.length - 1 - q < o.length) (h2 : a.length - 1 - q < a.length), o[o.length - 1 - q] = a[a.length - 1 - q]
            · exfalso
              obtain ⟨h0, h1, h2, he⟩ := hst2
              omega
            · have hs : suf o a = q := by
                have hk1 := HP.out
                have hle := pre_le o a
                unfold suf
                rw [hk1]
                have hall : ∀ j, j < q → (o.drop k).reverse[j]? = (a.drop k).reverse[j]? := fun j hj => by
                  rw [rev_get o k j (by omega), rev_get a k j (by omega)]; exact HQ.out j hj
                rcases Nat.lt_or_ge q (m0 - k) with h | h
                · refine pre_at _ _ q (by simp; omega) (by simp; omega) hall (fun e => hst2 ⟨h, by omega, by omega, ?_⟩)
                  have e1 := rev_get o k q (by omega)
                  have e2 := rev_get a k q (by omega)
                  rw [List.getElem?_eq_getElem (by simp; omega), List.getElem?_eq_getElem (by omega)] at e1 e2
                  injection e1 with e1
                  injection e2 with e2
                  rw [← e1, ← e2]; exact e
                · have hq' : q = min (o.drop k).reverse.length (a.drop k).reverse.length := by have := HM0.out; simp; omega
                  rw [hq']; exact pre_all _ _ (fun j hj => hall j (by omega))
              have HS := Lib.hid hs
              clear hs
              by_cases hlq : q < m0 - k
              · exfalso; omega
              · clear hst2 hbel
                by_cases hlo : q < o.length - k
                · have hm := HM0.out
                  have dO2 : decide ((q : Int) < (o.length : Int) - k) = true := by simp; omega
                  have e0 : IntKind.i64.wrap ((o.length : Int) - k) = (o.length : Int) - k := IntWalk.i64_in _ (by omega)
                  have dA2 : decide ((q : Int) < (a.length : Int) - k) = false := by simp; omega
                  have e0' : IntKind.i64.wrap ((a.length : Int) - k) = (a.length : Int) - k := IntWalk.i64_in _ (by omega)
                  clear hm
                  go_wp2_with (fail)
                  go_quiet (fail)
                  clear e0
                  go_wp2_with (fail)
                  go_ret3
                  exact ⟨by rw [HP.out, HS.out]; rfl, below_drewN HB.out _⟩
                · have dO2 : decide ((q : Int) < (o.length : Int) - k) = false := by simp; omega
                  have e0 : IntKind.i64.wrap ((o.length : Int) - k) = (o.length : Int) - k := IntWalk.i64_in _ (by omega)
                  go_wp2_with (fail)
                  go_quiet (fail)
                  clear e0
                  go_wp2_with (fail)
                  go_ret3
                  exact ⟨by rw [HP.out, HS.out]; rfl, below_drewN HB.out _⟩
end Go.Proofs.YtgbiddjkjdggpaaDoor
