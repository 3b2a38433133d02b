/- merge.changed. -/
import Derived.Test.YtgbiddjkjdggpaaDoorLines
import Derived.Test.YtgbiddjkjdggpaaDoorPlainMerge
import Derived.Deep.QuietTactic
import Derived.BigQuiet
import Derived.Test.YtgbiddjkjdggpaaDoorWholeRows
namespace Go.Proofs.YtgbiddjkjdggpaaDoor
open Go.RowKit Plain

/-- a change as a value -/
def ChgOut (w : World) (x : Chg) (e : Ending) (w' : World) : Prop := ∃ C c, e = .returned (.agg #[.int .i64 x.f, .int .i64 x.t, .slice C x.l.length c]) ∧ x.l.length ≤ c ∧ c ≤ maxLen ∧ Reads w' 1 C x.l.length (strs x.l) ∧ Below w.heap.size w w' ∧ (C = none → c = 0)

theorem infoChange : (Tryd.prog.info? 47).map (·.size) = some 3 := by kernel_rfl
theorem chg_out {w w5 : World} {o a : List (List UInt8)} {k q : Nat} {B C : Option Addr} {c : Nat} (hp : pre o a = k) (hs : suf o a = q) (hc : a.length - q - k ≤ c) (hm : c ≤ maxLen) (ha : Reads w5 1 B a.length (strs a)) (hC : k < a.length → C = B.map (·.add k)) (hb : Below w.heap.size w w5) (hC0 : C = none → c = 0) :
    ChgOut w (chg o a) (.returned (.agg #[.int .i64 k, .int .i64 ((o.length : Int) - q), .slice C (a.length - q - k) c])) w5 := by
  have hle := suf_le o a
  rw [hp, hs] at hle
  have hch : chg o a = ⟨k, o.length - q, (a.drop k).take (a.length - q - k)⟩ := by unfold chg; rw [hp, hs]
  have hl : ((a.drop k).take (a.length - q - k)).length = a.length - q - k := by simp; omega
  rw [hch]
  refine ⟨C, c, ?_, by simp only [hl]; exact hc, hm, ?_, hb, hC0⟩
  · simp only [hl]
    rw [show ((o.length - q : Nat) : Int) = (o.length : Int) - q by omega]
  · simp only [hl]
    have h1 := ha.cut (k := k) (by omega) C (fun h => by rw [Nat.mul_one]; exact hC h)
    have h2 := h1.take (k := a.length - q - k) (by omega)
    rw [Nat.mul_one, Nat.mul_one, strs_drop, strs_take] at h2
    exact h2

set_option maxHeartbeats 4000000 in
theorem changed_any (A B : Option Addr) (ca cb : Nat) (o a : List (List UInt8)) (w : World) (ho : Reads w 1 A o.length (strs o)) (ha : Reads w 1 B a.length (strs a)) (h63 : o.length ≤ 4294967296) (h63' : a.length ≤ 4294967296) (hcb : a.length ≤ cb) (hcm : cb ≤ maxLen) (hB0 : B = none → cb = 0) :
    Calls Tryd.prog 26 #[.slice A o.length ca, .slice B a.length cb] w (ChgOut w (chg o a)) := by
  obtain ⟨m0, hm0⟩ : ∃ m0, m0 = min o.length a.length := ⟨_, rfl⟩
  have hmn : min (o.length : Int) (a.length : Int) = (m0 : Int) := by omega
  have hmo : m0 ≤ o.length := by omega
  have hma : m0 ≤ a.length := by omega
  have HM0 := Lib.hid hm0
  clear hm0
  go_enter Tryd.func26, Tryd.ntmps26
  go_wp2_with (fail)
  go_loopw [5] (fun t5 W => ∃ k : Nat, k ≤ m0 ∧ t5 = .int .i64 k ∧ Hid (∀ j, j < k → o[j]? = a[j]?) ∧ Hid (W.heap[w.heap.size]? = some (.cells #[.int .i64 0, .int .i64 0, .slice none 0 0] 47 (0, 0))) ∧ Hid (Below w.heap.size w W)) (fun t5 _ => o.length - (intOf t5).toNat)
  case atStart => exact ⟨0, by omega, rfl, Lib.hid (fun j hj => by omega), Lib.hid (heap_alloc_new w _), Lib.hid ((Below.refl _ _).alloc (Nat.le_refl _) _)⟩
  case round =>
    obtain ⟨k, hk, rfl, HT, HW, HB⟩ := hrel
    have hbel := HB.out
    by_cases hst : ∃ (h1 : k < o.length) (h2 : k < a.length), o[k] = a[k]
    · obtain ⟨h1, h2, he⟩ := hst
      have hkm : k < m0 := by have := HM0.out; omega
      obtain ⟨ad, rfl, cA⟩ := (ho.below hbel).str_at h1
      obtain ⟨bd, rfl, cB⟩ := (ha.below hbel).str_at h2
      have hg1 : o[k]? = a[k]? := by rw [List.getElem?_eq_getElem h1, List.getElem?_eq_getElem h2, he]
      rw [← he] at cB
      generalize o[k] = s at *
      have hB : decide ((k : Int) < m0) = true := by simp; omega
      have i1 : (0 : Int) ≤ k := by omega
      have i2 : (k : Int) < o.length := by omega
      have i3 : (k : Int) < a.length := by omega
      have HG1 := Lib.hid hg1
      clear hg1 hbel he
      go_wp2_with (fail)
      go_quiet (fail)
      go_wp2_with (fail)
      go_roundw
      case rel => exact ⟨k + 1, by omega, by go_num, Lib.hid (fun j hj => by
        by_cases e : j = k
        · rw [e]; exact HG1.out
        · exact HT.out j (by omega)), Lib.hid HW.out, Lib.hid (below_drewN HB.out _)⟩
      case measure => simp [intOf]; omega
    · have hp : pre o a = k := by
        rcases Nat.lt_or_ge k m0 with h | h
        · exact pre_at o a k (by omega) (by omega) HT.out (fun e => hst ⟨by omega, by omega, e⟩)
        · have hkm : k = min o.length a.length := by have := HM0.out; omega
          rw [hkm]; exact pre_all o a (fun j hj => HT.out j (by omega))
      have HP := Lib.hid hp
      -- the first loop ends
      by_cases hlt : k < m0
      · obtain ⟨ad, rfl, cA⟩ := (ho.below hbel).str_at (show k < o.length by omega)
        obtain ⟨bd, rfl, cB⟩ := (ha.below hbel).str_at (show k < a.length by omega)
        have hne : (o[k]'(by omega) == a[k]'(by omega)) = false := by simpa using fun e => hst ⟨by omega, by omega, e⟩
        generalize o[k]'(by omega) = s at *
        generalize a[k]'(by omega) = t at *
        have hB : decide ((k : Int) < m0) = true := by simp; omega
        have i1 : (0 : Int) ≤ k := by omega
        have i2 : (k : Int) < o.length := by omega
        have i3 : (k : Int) < a.length := by omega
        clear hbel hst hp
        go_wp2_with (fail)
        go_quiet (fail)
        go_wp2_with (fail)
        go_loopw [6] (fun t6 W => ∃ q : Nat, q ≤ m0 - k ∧ t6 = .int .i64 q ∧ Hid (∀ j, j < q → o[o.length - 1 - j]? = a[a.length - 1 - j]?) ∧ Hid (W.heap[w.heap.size]? = some (.cells #[.int .i64 0, .int .i64 0, .slice none 0 0] 47 (0, 0))) ∧ Hid (Below w.heap.size w W)) (fun t6 _ => m0 - k - (intOf t6).toNat)
        case atStart => exact ⟨0, by omega, rfl, Lib.hid (fun j hj => by omega), Lib.hid HW.out, Lib.hid (below_drewN HB.out _)⟩
        case round =>
          clear HW HB
          obtain ⟨q, hq, rfl, HQ, HW, HB⟩ := hrel
          have hbel := HB.out
          have i0 : (0 : Int) ≤ q := by omega
          by_cases hst2 : ∃ (h0 : q < m0 - k) (h1 : o.length - 1 - q < o.length) (h2 : a.length - 1 - q < a.length), o[o.length - 1 - q] = a[a.length - 1 - q]
          · obtain ⟨h0, h1, h2, he⟩ := hst2
            obtain ⟨ad2, hA2, cA2⟩ := (ho.below hbel).str_at h1
            obtain ⟨bd2, hB2, cB2⟩ := (ha.below hbel).str_at h2
            injection hA2 with hA2
            subst hA2
            injection hB2 with hB2
            subst hB2
            have hg1 : o[o.length - 1 - q]? = a[a.length - 1 - q]? := by rw [List.getElem?_eq_getElem h1, List.getElem?_eq_getElem h2, he]
            rw [← he] at cB2
            generalize o[o.length - 1 - q] = s2 at *
            have HG1 := Lib.hid hg1
            clear hg1 hbel he
            have hB2 : decide ((q : Int) < (m0 : Int) - k) = true := by simp; omega
            have n1 : ((o.length : Int) - 1 - q).toNat = o.length - 1 - q := by omega
            have n2 : ((a.length : Int) - 1 - q).toNat = a.length - 1 - q := by omega
            have p1 : 0 ≤ ((o.length : Int) - 1 - q) := by omega
            have p2 : 0 ≤ ((a.length : Int) - 1 - q) := by omega
            have r1 : ((o.length : Int) - 1 - q) < o.length := by omega
            have r2 : ((a.length : Int) - 1 - q) < a.length := by omega
            have e0 : IntKind.i64.wrap ((m0 : Int) - k) = (m0 : Int) - k := IntWalk.i64_in _ (by omega)
            have e1 : IntKind.i64.wrap ((o.length : Int) - 1) = (o.length : Int) - 1 := IntWalk.i64_in _ (by omega)
            have e2 : IntKind.i64.wrap ((a.length : Int) - 1) = (a.length : Int) - 1 := IntWalk.i64_in _ (by omega)
            have e3 : IntKind.i64.wrap ((o.length : Int) - 1 - q) = (o.length : Int) - 1 - q := IntWalk.i64_in _ (by omega)
            have e4 : IntKind.i64.wrap ((a.length : Int) - 1 - q) = (a.length : Int) - 1 - q := IntWalk.i64_in _ (by omega)
            go_wp2_with (fail)
            go_quiet (fail)
            clear e0 e1 e2 e3 e4
            go_wp2_with (fail)
            go_roundw
            case rel => exact ⟨q + 1, by omega, by go_num, Lib.hid (fun j hj => by
              by_cases e : j = q
              · rw [e]; exact HG1.out
              · exact HQ.out j (by omega)), Lib.hid HW.out, Lib.hid (below_drewN HB.out _)⟩
            case measure => simp [intOf]; omega
          · have hs : suf o a = q := by
              have hk1 := HP.out
              have hle := pre_le o a
              unfold suf
              rw [hk1]
              have hall : ∀ j, j < q → (o.drop k).reverse[j]? = (a.drop k).reverse[j]? := fun j hj => by
                rw [rev_get o k j (by omega), rev_get a k j (by omega)]; exact HQ.out j hj
              rcases Nat.lt_or_ge q (m0 - k) with h | h
              · refine pre_at _ _ q (by simp; omega) (by simp; omega) hall (fun e => hst2 ⟨h, by omega, by omega, ?_⟩)
                have e1 := rev_get o k q (by omega)
                have e2 := rev_get a k q (by omega)
                rw [List.getElem?_eq_getElem (by simp; omega), List.getElem?_eq_getElem (by omega)] at e1 e2
                injection e1 with e1
                injection e2 with e2
                rw [← e1, ← e2]; exact e
              · have hq' : q = min (o.drop k).reverse.length (a.drop k).reverse.length := by have := HM0.out; simp; omega
                rw [hq']; exact pre_all _ _ (fun j hj => hall j (by omega))
            have HS := Lib.hid hs
            clear hs
            by_cases hlq : q < m0 - k
            · obtain ⟨ad2, hA2, cA2⟩ := (ho.below hbel).str_at (show o.length - 1 - q < o.length by omega)
              obtain ⟨bd2, hB2, cB2⟩ := (ha.below hbel).str_at (show a.length - 1 - q < a.length by omega)
              injection hA2 with hA2
              subst hA2
              injection hB2 with hB2
              subst hB2
              have hne2 : (o[o.length - 1 - q]'(by omega) == a[a.length - 1 - q]'(by omega)) = false := by simpa using fun e => hst2 ⟨hlq, by omega, by omega, e⟩
              generalize o[o.length - 1 - q]'(by omega) = s2 at *
              generalize a[a.length - 1 - q]'(by omega) = t2 at *
              clear hst2 hbel
              have hB2 : decide ((q : Int) < (m0 : Int) - k) = true := by simp; omega
              have n1 : ((o.length : Int) - 1 - q).toNat = o.length - 1 - q := by omega
              have n2 : ((a.length : Int) - 1 - q).toNat = a.length - 1 - q := by omega
              have p1 : 0 ≤ ((o.length : Int) - 1 - q) := by omega
              have p2 : 0 ≤ ((a.length : Int) - 1 - q) := by omega
              have r1 : ((o.length : Int) - 1 - q) < o.length := by omega
              have r2 : ((a.length : Int) - 1 - q) < a.length := by omega
              have e0 : IntKind.i64.wrap ((m0 : Int) - k) = (m0 : Int) - k := IntWalk.i64_in _ (by omega)
              have e1 : IntKind.i64.wrap ((o.length : Int) - 1) = (o.length : Int) - 1 := IntWalk.i64_in _ (by omega)
              have e2 : IntKind.i64.wrap ((a.length : Int) - 1) = (a.length : Int) - 1 := IntWalk.i64_in _ (by omega)
              have e3 : IntKind.i64.wrap ((o.length : Int) - 1 - q) = (o.length : Int) - 1 - q := IntWalk.i64_in _ (by omega)
              have e4 : IntKind.i64.wrap ((a.length : Int) - 1 - q) = (a.length : Int) - 1 - q := IntWalk.i64_in _ (by omega)
              go_wp2_with (fail)
              go_quiet (fail)
              clear e0 e1 e2 e3 e4 n1 n2 cA2 cB2 hne2
              by_cases hck : cb = k
              · exfalso; omega
              · go_wp2_with (refine wpList_store_row rfl 47 (.tmp 4) (.tmp 70) rfl w.heap.size #[.int .i64 k, .int .i64 ((o.length : Int) - q), .slice (some (bd.add k)) (a.length - q - k) (cb - k)] _ 47 rfl rfl HW.out rfl infoChange (by simp [Value.oneCell']) ?_)
                intro w5 hg5 hs5 hb5
                have hbl := below_gb (below_drewN HB.out _) HB.out.size hg5 (Nat.le_refl _)
                have HB5 := Lib.hid hb5
                have HBL := Lib.hid hbl
                clear hg5 hs5 hb5 hbl
                go_wp2_with (fail)
                refine bodyPost_ret (v := .agg #[.int .i64 k, .int .i64 ((o.length : Int) - q), .slice ((some bd).map (·.add k)) (a.length - q - k) (cb - k)]) ?_ rfl (chg_out HP.out HS.out (by omega) (by omega) (ha.below HBL.out) (fun _ => rfl) HBL.out (fun e => by first | (cases e; done) | (simp at e; have := hB0 e; omega)))
                exact results_cell_row Tryd.results26 _ _ w.heap.size 47 _ (0, 0) _ rfl HB5.out Tryd.underlying47 rfl infoChange
            · have hB2 : decide ((q : Int) < (m0 : Int) - k) = false := by simp; omega
              have e0 : IntKind.i64.wrap ((m0 : Int) - k) = (m0 : Int) - k := IntWalk.i64_in _ (by omega)
              clear hst2 hbel
              go_wp2_with (fail)
              go_quiet (fail)
              clear e0
              by_cases hck : cb = k
              · exfalso; omega
              · go_wp2_with (refine wpList_store_row rfl 47 (.tmp 4) (.tmp 70) rfl w.heap.size #[.int .i64 k, .int .i64 ((o.length : Int) - q), .slice (some (bd.add k)) (a.length - q - k) (cb - k)] _ 47 rfl rfl HW.out rfl infoChange (by simp [Value.oneCell']) ?_)
                intro w5 hg5 hs5 hb5
                have hbl := below_gb (below_drewN HB.out _) HB.out.size hg5 (Nat.le_refl _)
                have HB5 := Lib.hid hb5
                have HBL := Lib.hid hbl
                clear hg5 hs5 hb5 hbl
                go_wp2_with (fail)
                refine bodyPost_ret (v := .agg #[.int .i64 k, .int .i64 ((o.length : Int) - q), .slice ((some bd).map (·.add k)) (a.length - q - k) (cb - k)]) ?_ rfl (chg_out HP.out HS.out (by omega) (by omega) (ha.below HBL.out) (fun _ => rfl) HBL.out (fun e => by first | (cases e; done) | (simp at e; have := hB0 e; omega)))
                exact results_cell_row Tryd.results26 _ _ w.heap.size 47 _ (0, 0) _ rfl HB5.out Tryd.underlying47 rfl infoChange
      · have hB : decide ((k : Int) < m0) = false := by simp; omega
        clear hbel hst hp
        go_wp2_with (fail)
        go_quiet (fail)
        go_wp2_with (fail)
        go_loopw [6] (fun t6 W => ∃ q : Nat, q ≤ m0 - k ∧ t6 = .int .i64 q ∧ Hid (∀ j, j < q → o[o.length - 1 - j]? = a[a.length - 1 - j]?) ∧ Hid (W.heap[w.heap.size]? = some (.cells #[.int .i64 0, .int .i64 0, .slice none 0 0] 47 (0, 0))) ∧ Hid (Below w.heap.size w W)) (fun t6 _ => m0 - k - (intOf t6).toNat)
        case atStart => exact ⟨0, by omega, rfl, Lib.hid (fun j hj => by omega), Lib.hid HW.out, Lib.hid (below_drewN HB.out _)⟩
        case round =>
          clear HW HB
          obtain ⟨q, hq, rfl, HQ, HW, HB⟩ := hrel
          have hbel := HB.out
          have i0 : (0 : Int) ≤ q := by omega
          by_cases hst2 : ∃ (h0 : q < m0 - k) (h1 : o.length - 1 - q < o.length) (h2 : a.length - 1 - q < a.length), o[o.length - 1 - q] = a[a.length - 1 - q]
          · obtain ⟨h0, h1, h2, he⟩ := hst2
            obtain ⟨ad2, hA2, cA2⟩ := (ho.below hbel).str_at h1
            obtain ⟨bd2, hB2, cB2⟩ := (ha.below hbel).str_at h2
            subst hA2
            subst hB2
            have hg1 : o[o.length - 1 - q]? = a[a.length - 1 - q]? := by rw [List.getElem?_eq_getElem h1, List.getElem?_eq_getElem h2, he]
            rw [← he] at cB2
            generalize o[o.length - 1 - q] = s2 at *
            have HG1 := Lib.hid hg1
            clear hg1 hbel he
            have hB2 : decide ((q : Int) < (m0 : Int) - k) = true := by simp; omega
            have n1 : ((o.length : Int) - 1 - q).toNat = o.length - 1 - q := by omega
            have n2 : ((a.length : Int) - 1 - q).toNat = a.length - 1 - q := by omega
            have p1 : 0 ≤ ((o.length : Int) - 1 - q) := by omega
            have p2 : 0 ≤ ((a.length : Int) - 1 - q) := by omega
            have r1 : ((o.length : Int) - 1 - q) < o.length := by omega
            have r2 : ((a.length : Int) - 1 - q) < a.length := by omega
            have e0 : IntKind.i64.wrap ((m0 : Int) - k) = (m0 : Int) - k := IntWalk.i64_in _ (by omega)
            have e1 : IntKind.i64.wrap ((o.length : Int) - 1) = (o.length : Int) - 1 := IntWalk.i64_in _ (by omega)
            have e2 : IntKind.i64.wrap ((a.length : Int) - 1) = (a.length : Int) - 1 := IntWalk.i64_in _ (by omega)
            have e3 : IntKind.i64.wrap ((o.length : Int) - 1 - q) = (o.length : Int) - 1 - q := IntWalk.i64_in _ (by omega)
            have e4 : IntKind.i64.wrap ((a.length : Int) - 1 - q) = (a.length : Int) - 1 - q := IntWalk.i64_in _ (by omega)
            go_wp2_with (fail)
            go_quiet (fail)
            clear e0 e1 e2 e3 e4
            go_wp2_with (fail)
            go_roundw
            case rel => exact ⟨q + 1, by omega, by go_num, Lib.hid (fun j hj => by
              by_cases e : j = q
              · rw [e]; exact HG1.out
              · exact HQ.out j (by omega)), Lib.hid HW.out, Lib.hid (below_drewN HB.out _)⟩
            case measure => simp [intOf]; omega
          · have hs : suf o a = q := by
              have hk1 := HP.out
              have hle := pre_le o a
              unfold suf
              rw [hk1]
              have hall : ∀ j, j < q → (o.drop k).reverse[j]? = (a.drop k).reverse[j]? := fun j hj => by
                rw [rev_get o k j (by omega), rev_get a k j (by omega)]; exact HQ.out j hj
              rcases Nat.lt_or_ge q (m0 - k) with h | h
              · refine pre_at _ _ q (by simp; omega) (by simp; omega) hall (fun e => hst2 ⟨h, by omega, by omega, ?_⟩)
                have e1 := rev_get o k q (by omega)
                have e2 := rev_get a k q (by omega)
                rw [List.getElem?_eq_getElem (by simp; omega), List.getElem?_eq_getElem (by omega)] at e1 e2
                injection e1 with e1
                injection e2 with e2
                rw [← e1, ← e2]; exact e
              · have hq' : q = min (o.drop k).reverse.length (a.drop k).reverse.length := by have := HM0.out; simp; omega
                rw [hq']; exact pre_all _ _ (fun j hj => hall j (by omega))
            have HS := Lib.hid hs
            clear hs
            by_cases hlq : q < m0 - k
            · exfalso; omega
            · have hB2 : decide ((q : Int) < (m0 : Int) - k) = false := by simp; omega
              have e0 : IntKind.i64.wrap ((m0 : Int) - k) = (m0 : Int) - k := IntWalk.i64_in _ (by omega)
              clear hst2 hbel
              go_wp2_with (fail)
              go_quiet (fail)
              clear e0
              by_cases hck : cb = k
              · have hk0 := Lib.hid (show a.length = k by omega)
                go_wp2_with (refine wpList_store_row rfl 47 (.tmp 4) (.tmp 70) rfl w.heap.size #[.int .i64 k, .int .i64 ((o.length : Int) - q), .slice (B) (a.length - q - k) 0] _ 47 rfl rfl HW.out rfl infoChange (by simp [Value.oneCell']) ?_)
                intro w5 hg5 hs5 hb5
                have hbl := below_gb (below_drewN HB.out _) HB.out.size hg5 (Nat.le_refl _)
                have HB5 := Lib.hid hb5
                have HBL := Lib.hid hbl
                clear hg5 hs5 hb5 hbl
                go_wp2_with (fail)
                refine bodyPost_ret (v := .agg #[.int .i64 k, .int .i64 ((o.length : Int) - q), .slice (B) (a.length - q - k) 0]) ?_ rfl (chg_out (B := B) HP.out HS.out (by have := hk0.out; omega) (by omega) (ha.below HBL.out) (fun h => by have := hk0.out; omega) HBL.out (fun _ => rfl))
                exact results_cell_row Tryd.results26 _ _ w.heap.size 47 _ (0, 0) _ rfl HB5.out Tryd.underlying47 rfl infoChange
              · go_wp2_with (refine wpList_store_row rfl 47 (.tmp 4) (.tmp 70) rfl w.heap.size #[.int .i64 k, .int .i64 ((o.length : Int) - q), .slice ((Option.map (fun x => x.add k) B)) (a.length - q - k) (cb - k)] _ 47 rfl rfl HW.out rfl infoChange (by simp [Value.oneCell']) ?_)
                intro w5 hg5 hs5 hb5
                have hbl := below_gb (below_drewN HB.out _) HB.out.size hg5 (Nat.le_refl _)
                have HB5 := Lib.hid hb5
                have HBL := Lib.hid hbl
                clear hg5 hs5 hb5 hbl
                go_wp2_with (fail)
                refine bodyPost_ret (v := .agg #[.int .i64 k, .int .i64 ((o.length : Int) - q), .slice (B.map (·.add k)) (a.length - q - k) (cb - k)]) ?_ rfl (chg_out HP.out HS.out (by omega) (by omega) (ha.below HBL.out) (fun _ => rfl) HBL.out (fun e => by first | (cases e; done) | (simp at e; have := hB0 e; omega)))
                exact results_cell_row Tryd.results26 _ _ w.heap.size 47 _ (0, 0) _ rfl HB5.out Tryd.underlying47 rfl infoChange
end Go.Proofs.YtgbiddjkjdggpaaDoor
