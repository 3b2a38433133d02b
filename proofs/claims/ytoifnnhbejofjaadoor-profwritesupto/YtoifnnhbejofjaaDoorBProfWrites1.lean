/- Texts joined: ProfR1, ProfR2, ProfR3, PlainGlobR. -/
import Derived.Test.YtoifnnhbejofjaaDoorBProfBaseA6
import Derived.Test.YtoifnnhbejofjaaDoorBProfBaseA5
import Derived.Test.YtoifnnhbejofjaaDoorBProfBaseA7
import Derived.OwnWalk
import Derived.BigRegion
import Derived.Deep.RegionWith
import Derived.Test.YtoifnnhbejofjaaDoorBProfBaseA3
set_option linter.unusedSimpArgs false
set_option linter.unusedVariables false

/- The document's words, lines, numbers and names of a profile. -/
section
set_option linter.unusedVariables false
namespace Go.Proofs.YtoifnnhbejofjaaDoor
open Go.RowKit Plain

namespace Plain
theorem decL_lo {n : Nat} (h : n < 10) : decL n = [UInt8.ofNat (48 + n)] := by unfold decL; rw [Lib.decDigits, dif_pos h]
theorem decL_hi {n : Nat} (h : 10 ≤ n) : decL n = decL (n / 10) ++ [UInt8.ofNat (48 + n % 10)] := by unfold decL; rw [Lib.decDigits, dif_neg (by omega)]
theorem trim_right {c : UInt8} (r : List UInt8) (h : blk c = true) : trimP (r ++ [c]) = trimP r := by
  rw [trimS_alt, trimS_alt, List.reverse_append, List.reverse_singleton, List.singleton_append, List.dropWhile_cons, if_pos h]
theorem trim_left {c : UInt8} (r : List UInt8) (h : blk c = true) : trimP (c :: r) = trimP r := by
  rw [trimS_alt, trimS_alt, List.reverse_cons, List.dropWhile_append]
  cases hd : (r.reverse.dropWhile blk).isEmpty with
  | true =>
    rw [if_pos rfl, List.dropWhile_cons, if_pos h]
    rw [List.isEmpty_iff] at hd
    rw [hd]; rfl
  | false =>
    rw [if_neg (by decide), List.reverse_append, List.reverse_singleton, List.singleton_append, List.dropWhile_cons, if_pos h]
theorem wordOf_at : ∀ (t : List UInt8) (k : Nat), k ≤ t.length → (∀ j, ∀ h : j < t.length, j < k → blk t[j] = false) → (∀ h : k < t.length, blk t[k] = true) → (wordOf t).length = k
  | [], k, hk, _, _ => by simp at hk; subst hk; rfl
  | x :: t, 0, _, _, h2 => by
    have := h2 (by simp)
    simp only [List.getElem_cons_zero] at this
    unfold wordOf
    rw [List.takeWhile_cons, this]; rfl
  | x :: t, k + 1, hk, h1, h2 => by
    have h0 := h1 0 (by simp) (by omega)
    simp only [List.getElem_cons_zero] at h0
    have ih := wordOf_at t k (by simpa using hk) (fun j hj hjk => by have := h1 (j + 1) (by simpa using hj) (by omega); rwa [List.getElem_cons_succ] at this) (fun h => by have := h2 (by simpa using h); rwa [List.getElem_cons_succ] at this)
    unfold wordOf at ih ⊢
    rw [List.takeWhile_cons, h0]
    simp [ih]
end Plain

set_option maxHeartbeats 1000000 in
theorem rblank_any (c : UInt8) (w : World) : Calls Tryd.prog 52 #[.int .u8 (c.toNat : Int)] w (Ret w (.bool (blk c))) := by
  have ne : ∀ n : Nat, n < 256 → c ≠ UInt8.ofNat n → ((c.toNat : Int) == (n : Int)) = false := fun n hn h => by
    rw [beq_eq_false_iff_ne]; intro e; exact h (UInt8.toNat_inj.1 (by simp; omega))
  unfold blk
  by_cases h9 : c = 9
  · subst h9
    go_enter Tryd.func52, Tryd.ntmps52
    go_wp2_with (fail)
    go_ret
    exact ⟨rfl, Below.refl _ _⟩
  · have g9 : ((c.toNat : Int) == 9) = false := ne 9 (by omega) h9
    by_cases h13 : c = 13
    · subst h13
      go_enter Tryd.func52, Tryd.ntmps52
      go_wp2_with (fail)
      go_ret
      exact ⟨rfl, Below.refl _ _⟩
    · have g13 : ((c.toNat : Int) == 13) = false := ne 13 (by omega) h13
      by_cases h32 : c = 32
      · subst h32
        go_enter Tryd.func52, Tryd.ntmps52
        go_wp2_with (fail)
        go_ret
        exact ⟨rfl, Below.refl _ _⟩
      · have g32 : ((c.toNat : Int) == 32) = false := ne 32 (by omega) h32
        have e : (c == 9 || c == 13 || c == 32) = false := by
          rw [beq_eq_false_iff_ne.2 h9, beq_eq_false_iff_ne.2 h13, beq_eq_false_iff_ne.2 h32]; rfl
        rw [e]
        clear ne h9 h13 h32 e
        go_enter Tryd.func52, Tryd.ntmps52
        go_wp2_with (fail)
        go_ret
        exact ⟨rfl, Below.refl _ _⟩

set_option maxHeartbeats 2000000 in
set_option maxRecDepth 100000 in
theorem trimmed_any (s : List UInt8) (w : World) (hs : s.length ≤ 9223372036854775807) :
    Calls Tryd.prog 45 #[.string ⟨s.toArray⟩] w (Ret w (.string ⟨(trimP s).toArray⟩)) := by
  obtain ⟨out, hout⟩ : ∃ o, trimP s = o := ⟨_, rfl⟩
  have HO := Lib.hid hout
  rw [hout]
  clear hout
  go_enter Tryd.func45, Tryd.ntmps45
  go_wp2_with (fail)
  go_loopw [0] (fun t0 W => ∃ r : List UInt8, t0 = .string ⟨r.toArray⟩ ∧ r.length ≤ s.length ∧ Hid (trimP r = out) ∧ Hid (Below w.heap.size w W)) (fun t0 _ => strLenG t0)
  case atStart => exact ⟨s, rfl, Nat.le_refl _, HO, Lib.hid (Below.refl _ _)⟩
  case round =>
    obtain ⟨r, rfl, hrl, HE, HB⟩ := hrel
    by_cases hne : r = []
    · subst hne
      go_wp2_with (fail)
      go_loopw [0] (fun t0 W => ∃ q : List UInt8, t0 = .string ⟨q.toArray⟩ ∧ q.length ≤ s.length ∧ Hid (trimP q = out) ∧ Hid (∀ c, q.head? = some c → blk c = false) ∧ Hid (Below w.heap.size w W)) (fun t0 _ => strLenG t0)
      case atStart => exact ⟨[], rfl, by simp, HE, Lib.hid (fun c h => by cases h), HB⟩
      case round =>
        obtain ⟨q, rfl, hql, HQ, HH, HB2⟩ := hrel
        by_cases hne2 : q = []
        · subst hne2
          have HF : Hid (out = []) := Lib.hid (by rw [← HQ.out]; rfl)
          go_wp2_with (fail)
          go_ret
          exact ⟨by rw [HF.out]; rfl, HB2.out⟩
        · obtain ⟨u, y, hq⟩ : ∃ u y, q = u ++ [y] := ⟨q.dropLast, q.getLast hne2, (List.dropLast_concat_getLast hne2).symm⟩
          have hql2 : q.length = u.length + 1 := by rw [hq]; simp
          have hpos2 : u.length < q.length := by omega
          have hy : q[u.length]'hpos2 = y := by subst hq; simp
          have htk : q.take u.length = u := by subst hq; simp
          have hie2 : q.isEmpty = false := by cases q with | nil => exact absurd rfl hne2 | cons _ _ => rfl
          have HY := Lib.hid (fun W => rblank_any y W)
          have e1 : IntKind.i64.wrap ((q.length : Int) - 1) = (u.length : Int) := by rw [IntWalk.i64_in _ (by omega)]; omega
          have n0 : (0 : Int) ≤ (u.length : Int) := by omega
          have n1 : (u.length : Int) < (q.length : Int) := by omega
          have n2 : (u.length : Int) ≤ (q.length : Int) := by omega
          have HQQ := Lib.hid hq
          have HTK := Lib.hid htk
          clear hq htk
          cases hb2 : blk y with
          | true =>
            rw [hb2] at HY
            have HE3 : Hid (trimP u = out) := Lib.hid (by rw [← HQ.out, HQQ.out, trim_right u hb2])
            have HH3 : Hid (∀ c, u.head? = some c → blk c = false) := Lib.hid (fun c hc => HH.out c (by rw [HQQ.out, List.head?_append, hc]; rfl))
            clear hb2 hne2
            go_wp2_with (go_at_call 52; refine (HY.out _).mono ?_; rintro e w2 ⟨rfl, hw2⟩)
            go_roundw
            case rel => exact ⟨u, by simp [HTK.out], by omega, HE3, HH3, Lib.hid (HB2.out.trans (hw2.mono HB2.out.size))⟩
            case measure => simp [strLenG, ByteArray.size]; omega
          | false =>
            rw [hb2] at HY
            have HF : Hid (out = q) := Lib.hid (by
              rw [← HQ.out]
              exact trim_id ⟨HH.out, fun c hc => by rw [HQQ.out, List.getLast?_append] at hc; simp at hc; rw [← hc]; exact hb2⟩)
            clear hb2 hne2
            go_wp2_with (go_at_call 52; refine (HY.out _).mono ?_; rintro e w2 ⟨rfl, hw2⟩)
            go_ret
            exact ⟨by rw [HF.out]; rfl, HB2.out.trans (hw2.mono HB2.out.size)⟩
    · obtain ⟨x, hx⟩ : ∃ x, r.head? = some x := by cases r with | nil => exact absurd rfl hne | cons x _ => exact ⟨x, rfl⟩
      have hpos : 0 < r.length := List.length_pos_iff.2 hne
      have hx0 : r[0]'hpos = x := by cases r with | nil => cases hx | cons y _ => simpa using hx
      have hie : r.isEmpty = false := by cases r with | nil => exact absurd rfl hne | cons y _ => rfl
      have hB := Lib.hid (fun W => rblank_any x W)
      cases hb : blk x with
      | true =>
        rw [hb] at hB
        have HE2 : Hid (trimP (r.drop 1) = out) := Lib.hid (by
          rw [← HE.out]
          cases r with
          | nil => cases hx
          | cons y r' => simp only [List.head?_cons, Option.some.injEq] at hx; subst hx; rw [trim_left r' hb]; rfl)
        have r1 : (1 : Int) ≤ (r.length : Int) := by omega
        clear hb hne hx
        go_wp2_with (go_at_call 52; refine (hB.out _).mono ?_; rintro e w1 ⟨rfl, hw1⟩)
        go_roundw
        case rel => exact ⟨r.drop 1, by simp; exact List.take_of_length_le (by simp), by rw [List.length_drop]; omega, HE2, Lib.hid (HB.out.trans (hw1.mono HB.out.size))⟩
        case measure => simp [strLenG, ByteArray.size]; omega
      | false =>
        rw [hb] at hB
        have HH0 : Hid (∀ c, r.head? = some c → blk c = false) := Lib.hid (fun c hc => by rw [hx] at hc; injection hc with hc; rw [← hc]; exact hb)
        clear hb hne hx
        go_wp2_with (go_at_call 52; refine (hB.out _).mono ?_; rintro e w1 ⟨rfl, hw1⟩)
        have HB1 := Lib.hid (HB.out.trans (hw1.mono HB.out.size))
        clear hw1 HB hB hx0 hie
        go_loopw [0] (fun t0 W => ∃ q : List UInt8, t0 = .string ⟨q.toArray⟩ ∧ q.length ≤ s.length ∧ Hid (trimP q = out) ∧ Hid (∀ c, q.head? = some c → blk c = false) ∧ Hid (Below w.heap.size w W)) (fun t0 _ => strLenG t0)
        case atStart => exact ⟨r, rfl, hrl, HE, HH0, HB1⟩
        case round =>
          obtain ⟨q, rfl, hql, HQ, HH, HB2⟩ := hrel
          by_cases hne2 : q = []
          · subst hne2
            have HF : Hid (out = []) := Lib.hid (by rw [← HQ.out]; rfl)
            go_wp2_with (fail)
            go_ret
            exact ⟨by rw [HF.out]; rfl, HB2.out⟩
          · obtain ⟨u, y, hq⟩ : ∃ u y, q = u ++ [y] := ⟨q.dropLast, q.getLast hne2, (List.dropLast_concat_getLast hne2).symm⟩
            have hql2 : q.length = u.length + 1 := by rw [hq]; simp
            have hpos2 : u.length < q.length := by omega
            have hy : q[u.length]'hpos2 = y := by subst hq; simp
            have htk : q.take u.length = u := by subst hq; simp
            have hie2 : q.isEmpty = false := by cases q with | nil => exact absurd rfl hne2 | cons _ _ => rfl
            have HY := Lib.hid (fun W => rblank_any y W)
            have e1 : IntKind.i64.wrap ((q.length : Int) - 1) = (u.length : Int) := by rw [IntWalk.i64_in _ (by omega)]; omega
            have n0 : (0 : Int) ≤ (u.length : Int) := by omega
            have n1 : (u.length : Int) < (q.length : Int) := by omega
            have n2 : (u.length : Int) ≤ (q.length : Int) := by omega
            have HQQ := Lib.hid hq
            have HTK := Lib.hid htk
            clear hq htk
            cases hb2 : blk y with
            | true =>
              rw [hb2] at HY
              have HE3 : Hid (trimP u = out) := Lib.hid (by rw [← HQ.out, HQQ.out, trim_right u hb2])
              have HH3 : Hid (∀ c, u.head? = some c → blk c = false) := Lib.hid (fun c hc => HH.out c (by rw [HQQ.out, List.head?_append, hc]; rfl))
              clear hb2 hne2
              go_wp2_with (go_at_call 52; refine (HY.out _).mono ?_; rintro e w2 ⟨rfl, hw2⟩)
              go_roundw
              case rel => exact ⟨u, by simp [HTK.out], by omega, HE3, HH3, Lib.hid (HB2.out.trans (hw2.mono HB2.out.size))⟩
              case measure => simp [strLenG, ByteArray.size]; omega
            | false =>
              rw [hb2] at HY
              have HF : Hid (out = q) := Lib.hid (by
                rw [← HQ.out]
                exact trim_id ⟨HH.out, fun c hc => by rw [HQQ.out, List.getLast?_append] at hc; simp at hc; rw [← hc]; exact hb2⟩)
              clear hb2 hne2
              go_wp2_with (go_at_call 52; refine (HY.out _).mono ?_; rintro e w2 ⟨rfl, hw2⟩)
              go_ret
              exact ⟨by rw [HF.out]; rfl, HB2.out.trans (hw2.mono HB2.out.size)⟩
end Go.Proofs.YtoifnnhbejofjaaDoor
end

/- The document's cut, lines, word, find, side, numbers. -/
section
set_option linter.unusedVariables false
namespace Go.Proofs.YtoifnnhbejofjaaDoor
open Go.RowKit Plain

theorem TrimR_cut (t : List UInt8) (w : World) (hs : t.length ≤ 9223372036854775807) : Calls Tryd.prog 45 #[.string ⟨t.toArray⟩] w (Ret w (.string ⟨(trimP t).toArray⟩)) := trimmed_any t w hs

set_option maxHeartbeats 2000000 in
set_option maxRecDepth 100000 in
theorem rcut_any (s : List UInt8) (w : World) (hs : s.length ≤ 9223372036854775807) :
    Calls Tryd.prog 36 #[.string ⟨s.toArray⟩] w (Ret w (.tuple #[.string ⟨(cutP s).1.toArray⟩, .string ⟨(cutP s).2.toArray⟩])) := by
  have HT := Lib.hid (fun W => trimmed_any s W hs)
  have htl := trim_le s
  obtain ⟨o1, ho1⟩ : ∃ o, (cutP s).1 = o := ⟨_, rfl⟩
  obtain ⟨o2, ho2⟩ : ∃ o, (cutP s).2 = o := ⟨_, rfl⟩
  rw [ho1, ho2]
  unfold cutP at ho1 ho2
  simp only at ho1 ho2
  generalize trimP s = t at *
  have HT2 := Lib.hid (fun (k : Nat) W => trimmed_any (t.drop k) W (by rw [List.length_drop]; omega))
  have HO1 := Lib.hid ho1
  have HO2 := Lib.hid ho2
  clear ho1 ho2
  go_enter Tryd.func36, Tryd.ntmps36
  go_wp2_with (fail)
  refine (HT.out _).mono ?_
  rintro e w1 ⟨rfl, hw1⟩
  have HB1 := Lib.hid hw1
  clear hw1
  go_wp2_with (fail)
  go_loopw [5] (fun t5 W => ∃ k : Nat, k ≤ t.length ∧ t5 = .int .i64 k ∧ Hid (∀ j, ∀ h : j < t.length, j < k → blk t[j] = false) ∧ Hid (Below w.heap.size w W)) (fun t5 _ => t.length - (intOf t5).toNat)
  case atStart => exact ⟨0, by omega, rfl, Lib.hid (fun j h hj => by omega), HB1⟩
  case round =>
    obtain ⟨k, hk, rfl, HN, HB⟩ := hrel
    have k0 : (0 : Int) ≤ (k : Int) := by omega
    by_cases hlt : k < t.length
    · have k1 : (k : Int) < t.length := by omega
      have e1 : IntKind.i64.wrap ((k : Int) + 1) = (k : Int) + 1 := IntWalk.i64_in _ (by omega)
      have hnx : blk t[k] = false → ∀ j, ∀ h : j < t.length, j < k + 1 → blk t[j] = false := fun h j hj hj2 => by
        by_cases e : j = k
        · subst e; exact h
        · exact HN.out j hj (by omega)
      have hend : blk t[k] = true → (wordOf t).length = k := fun h => wordOf_at t k (by omega) HN.out (fun _ => h)
      have HY := Lib.hid (fun W => rblank_any t[k] W)
      generalize hx : t[k] = x at *
      have HNX := Lib.hid hnx
      have HEND := Lib.hid hend
      clear hnx hend
      cases hb : blk x with
      | false =>
        rw [hb] at HY
        have HN2 := Lib.hid (HNX.out hb)
        clear hb HNX HEND
        go_wp2_with (go_at_call 52; refine (HY.out _).mono ?_; rintro e w2 ⟨rfl, hw2⟩)
        go_roundw
        case rel => exact ⟨k + 1, by omega, by go_num, HN2, Lib.hid (HB.out.trans (hw2.mono HB.out.size))⟩
        case measure => simp [intOf]; omega
      | true =>
        rw [hb] at HY
        have hwl := HEND.out hb
        have HTK : Hid (t.take k = o1) := Lib.hid (by rw [← HO1.out, ← hwl]; exact wordOf_take t)
        have HDR : Hid (trimP (t.drop k) = o2) := Lib.hid (by rw [← HO2.out, hwl])
        have HD : Hid ((t.drop k).take (t.length - k) = t.drop k) := Lib.hid (List.take_of_length_le (by rw [List.length_drop]; omega))
        have HT3 := Lib.hid (HT2.out k)
        rw [HDR.out] at HT3
        have g2 : (k : Int) ≤ (t.length : Int) := by omega
        clear hb HNX HEND hwl HT2
        go_wp2_with (go_at_call 52; refine (HY.out _).mono ?_; rintro e w2 ⟨rfl, hw2⟩)
        have HB2 := Lib.hid (HB.out.trans (hw2.mono HB.out.size))
        clear hw2 HB
        refine wp_region_below (by kernel_rfl) (by kernel_rfl) ?_
        repeat (go_big_quiet_step ((intro hW; go_at_call 45; exact Ret.quiet hW (HT3.out _))))
        refine wpQuiet_nil ?_
        intro W3 hW3
        go_wp2_with (fail)
        go_ret2
        exact ⟨by rw [HTK.out]; rfl, HB2.out.trans (hW3.mono HB2.out.size)⟩
    · obtain rfl : k = t.length := by omega
      have k1 : ¬ (t.length : Int) < t.length := by omega
      have hwl := wordOf_at t t.length (Nat.le_refl _) HN.out (fun h => absurd h (by omega))
      have HTK : Hid (t = o1) := Lib.hid (by rw [← HO1.out]; exact (wordOf_all (by omega)).symm)
      have HDR : Hid (trimP (t.drop t.length) = o2) := Lib.hid (by rw [← HO2.out, hwl])
      have HT3 := Lib.hid (HT2.out t.length)
      rw [HDR.out, List.drop_length] at HT3
      clear hwl HT2
      go_wp2_with (fail)
      refine wp_region_below (by kernel_rfl) (by kernel_rfl) ?_
      repeat (go_big_quiet_step ((intro hW; go_at_call 45; exact Ret.quiet hW (HT3.out _))))
      refine wpQuiet_nil ?_
      intro W3 hW3
      go_wp2_with (fail)
      go_ret2
      exact ⟨by rw [← HTK.out]; rfl, HB.out.trans (hW3.mono HB.out.size)⟩

theorem rside_any (s : List UInt8) (w : World) : Calls Tryd.prog 53 #[.string ⟨s.toArray⟩] w (Ret w (.int .i64 (sideP s))) := by
  unfold sideP
  by_cases h1 : s = [97]
  · subst h1
    go_enter Tryd.func53, Tryd.ntmps53
    go_wp2_with (fail)
    go_ret
    exact ⟨rfl, Below.refl _ _⟩
  · have g1 : (s == [97]) = false := by simpa using h1
    rw [if_neg h1]
    by_cases h2 : s = [98]
    · subst h2
      go_enter Tryd.func53, Tryd.ntmps53
      go_wp2_with (fail)
      go_ret
      exact ⟨rfl, Below.refl _ _⟩
    · have g2 : (s == [98]) = false := by simpa using h2
      rw [if_neg h2]
      clear h1 h2
      go_enter Tryd.func53, Tryd.ntmps53
      go_wp2_with (fail)
      go_ret
      exact ⟨rfl, Below.refl _ _⟩

set_option maxHeartbeats 1000000 in
set_option maxRecDepth 100000 in
theorem rfind_any (T : List Txt) (A : Option Addr) (c : Nat) (n : List UInt8) (w : World) (hR : IsRows w 2 A (T.map txtV)) (hl : T.length ≤ 9223372036854775807) :
    Calls Tryd.prog 14 #[.slice A T.length c, .string ⟨n.toArray⟩] w (Ret w (.int .i64 (findI T n))) := by
  have HR := Lib.hid (fun W (h : Below w.heap.size w W) => hR.below h)
  obtain ⟨r, hr⟩ : ∃ r, findI T n = r := ⟨_, rfl⟩
  have HRES := Lib.hid hr
  rw [hr]
  clear hR hr
  go_enter Tryd.func14, Tryd.ntmps14
  go_wp2_with (fail)
  go_loopw [5] (fun t5 W => ∃ (i : Nat), i ≤ T.length ∧ t5 = .int .i64 i ∧ Hid (∀ j, j < i → ((T.getD j ⟨[], []⟩).name == n) = false) ∧ Hid (Below w.heap.size w W)) (fun t5 _ => T.length - (intOf t5).toNat)
  case atStart => exact ⟨0, by omega, rfl, Lib.hid (fun j h => by omega), Lib.hid (Below.refl _ _)⟩
  case round =>
    obtain ⟨i, hi, rfl, HE, HW⟩ := hrel
    have i0 : (0 : Int) ≤ i := by omega
    by_cases hlt2 : i < T.length
    · have i1 : (i : Int) < T.length := by omega
      have e1 : IntKind.i64.wrap ((i : Int) + 1) = (i : Int) + 1 := IntWalk.i64_in _ (by omega)
      obtain ⟨ad, rfl, c0, c1⟩ := txt_cells (HR.out _ HW.out) hlt2
      have hht := @findT_hit T n i hlt2
      have HEX := HE.out
      have hnx : ((T.getD i ⟨[], []⟩).name == n) = false → ∀ j, j < i + 1 → ((T.getD j ⟨[], []⟩).name == n) = false := fun h j hj => by
        by_cases e : j = i
        · rw [e]; exact h
        · exact HEX j (by omega)
      generalize T.getD i ⟨[], []⟩ = x at *
      have HHT := Lib.hid hht
      have HNX := Lib.hid hnx
      clear hht hnx HEX
      cases hb : (x.name == n) with
      | true =>
        have HF := Lib.hid (show r = (i : Int) by rw [← HRES.out]; unfold findI; rw [HHT.out HE.out hb])
        clear HHT HNX
        go_wp2_with (fail)
        go_ret
        exact ⟨by rw [HF.out]; rfl, HW.out⟩
      | false =>
        have HE2 := Lib.hid (HNX.out hb)
        clear HHT HNX
        go_wp2_with (fail)
        go_roundw
        case rel => exact ⟨i + 1, by omega, by go_num, HE2, HW⟩
        case measure => simp [intOf]; omega
    · obtain rfl : i = T.length := by omega
      have i1 : decide ((T.length : Int) < (T.length : Int)) = false := by rw [decide_eq_false_iff_not]; omega
      have HF := Lib.hid (show r = -1 by rw [← HRES.out]; unfold findI; rw [findT_no HE.out])
      go_wp2_with (fail)
      go_ret
      exact ⟨by rw [HF.out]; rfl, HW.out⟩

namespace Plain
def azC (c : UInt8) : Bool := decide (97 ≤ c.toNat) && decide (c.toNat ≤ 122)
theorem wordP_all (s : List UInt8) : wordP s = ((decide (1 ≤ s.length) && decide (s.length ≤ 16)) && s.all azC) := rfl
theorem all_drop_at {p : UInt8 → Bool} {s : List UInt8} {k : Nat} (h : k < s.length) : (s.drop k).all p = (p s[k] && (s.drop (k + 1)).all p) := by
  rw [List.drop_eq_getElem_cons h, List.all_cons]
end Plain
set_option maxHeartbeats 1000000 in
set_option maxRecDepth 100000 in
theorem rword_eq (s : List UInt8) (w : World) (hs : s.length ≤ 9223372036854775807) : Calls Tryd.prog 26 #[.string ⟨s.toArray⟩] w fun e w' => e = .returned (.bool (wordP s)) ∧ w' = w := by
  rw [wordP_all]
  obtain ⟨al, hal⟩ : ∃ b, s.all azC = b := ⟨_, rfl⟩
  rw [hal]
  have HA : Hid ((s.drop 0).all azC = al) := Lib.hid hal
  clear hal
  go_enter Tryd.func26, Tryd.ntmps26
  go_wp2_with (fail)
  go_loopw [3] (fun t3 W => ∃ k : Nat, k ≤ s.length ∧ t3 = .int .i64 k ∧ W = w ∧ Hid ((s.drop k).all azC = al)) (fun t3 _ => s.length - (intOf t3).toNat)
  case atStart => exact ⟨0, by omega, rfl, rfl, HA⟩
  case round =>
    clear HA
    obtain ⟨k, hk, rfl, rfl, HA⟩ := hrel
    have k0 : (0 : Int) ≤ (k : Int) := by omega
    by_cases hlt : k < s.length
    · have k1 : (k : Int) < s.length := by omega
      have e1 : IntKind.i64.wrap ((k : Int) + 1) = (k : Int) + 1 := IntWalk.i64_in _ (by omega)
      have hat := all_drop_at (p := azC) hlt
      rw [HA.out] at hat
      generalize hx : s[k] = x at *
      unfold azC at hat
      by_cases h97 : x.toNat < 97
      · have g1 : (x.toNat : Int) < 97 := by omega
        have HF : Hid (al = false) := Lib.hid (by rw [hat, decide_eq_false (show ¬ 97 ≤ x.toNat by omega)]; rfl)
        clear hat h97
        go_wp2_with (fail)
        go_ret
        exact ⟨by rw [HF.out, Bool.and_false]; rfl, rfl⟩
      · have g1 : ¬ (x.toNat : Int) < 97 := by omega
        by_cases h122 : 122 < x.toNat
        · have g2 : (122 : Int) < (x.toNat : Int) := by omega
          have HF : Hid (al = false) := Lib.hid (by rw [hat, decide_eq_false (show ¬ x.toNat ≤ 122 by omega), Bool.and_false]; rfl)
          clear hat h97 h122
          go_wp2_with (fail)
          go_ret
          exact ⟨by rw [HF.out, Bool.and_false]; rfl, rfl⟩
        · have g2 : ¬ (122 : Int) < (x.toNat : Int) := by omega
          have HA2 : Hid ((s.drop (k + 1)).all azC = al) := Lib.hid (by rw [hat, decide_eq_true (show 97 ≤ x.toNat by omega), decide_eq_true (show x.toNat ≤ 122 by omega)]; rfl)
          clear hat h97 h122 HA
          go_wp2_with (fail)
          go_roundw
          case rel => exact ⟨k + 1, by omega, by go_num, (by first | rfl | trivial), HA2⟩
          case measure => simp [intOf]; omega
    · obtain rfl : k = s.length := by omega
      have k1 : ¬ (s.length : Int) < s.length := by omega
      have HF : Hid (al = true) := Lib.hid (by rw [← HA.out, List.drop_length]; rfl)
      by_cases h1 : 1 ≤ s.length
      · by_cases h2 : s.length ≤ 16
        · have g1 : (1 : Int) ≤ (s.length : Int) := by omega
          have g2 : (s.length : Int) ≤ 16 := by omega
          have HD : Hid ((decide (1 ≤ s.length) && decide (s.length ≤ 16) && al) = true) := Lib.hid (by rw [HF.out, decide_eq_true h1, decide_eq_true h2]; rfl)
          clear h1 h2
          go_wp2_with (fail)
          go_ret
          exact ⟨by rw [HD.out]; rfl, rfl⟩
        · have g1 : (1 : Int) ≤ (s.length : Int) := by omega
          have g2 : ¬ (s.length : Int) ≤ 16 := by omega
          have HD : Hid ((decide (1 ≤ s.length) && decide (s.length ≤ 16) && al) = false) := Lib.hid (by rw [decide_eq_false h2, Bool.and_false]; rfl)
          clear h1 h2
          go_wp2_with (fail)
          go_ret
          exact ⟨by rw [HD.out]; rfl, rfl⟩
      · have g1 : ¬ (1 : Int) ≤ (s.length : Int) := by omega
        have HD : Hid ((decide (1 ≤ s.length) && decide (s.length ≤ 16) && al) = false) := Lib.hid (by rw [decide_eq_false h1]; rfl)
        clear h1
        go_wp2_with (fail)
        go_ret
        exact ⟨by rw [HD.out]; rfl, rfl⟩
theorem rword_any (s : List UInt8) (w : World) (hs : s.length ≤ 9223372036854775807) : Calls Tryd.prog 26 #[.string ⟨s.toArray⟩] w (Ret w (.bool (wordP s))) := (rword_eq s w hs).mono fun e w' ⟨he, hw⟩ => ⟨he, hw ▸ Below.refl _ _⟩

set_option maxHeartbeats 2000000 in
set_option maxRecDepth 100000 in
theorem rlines_any (s : List UInt8) (w : World) (hs : s.length ≤ 1048576) : Calls Tryd.prog 35 #[.string ⟨s.toArray⟩] w fun e w' => ∃ v, e = .returned v ∧ w'.ownsRow w.heap.size 9 1 v (cutAt 10 [] s).length (strs (cutAt 10 [] s)) ∧ Below w.heap.size w w' := by
  obtain ⟨i0, hi, hz0, hz1, hz2⟩ := info_parts info_string
  have HI := Lib.hid hi
  obtain ⟨L, hL⟩ : ∃ L, cutAt 10 [] s = L := ⟨_, rfl⟩
  have HL := Lib.hid hL
  have hcl := cutAt_length 10 [] s
  have hcc : s.count 10 ≤ s.length := List.count_le_length
  rw [hL] at hcl ⊢
  clear hL hi hcl hcc
  go_enter Tryd.func35, Tryd.ntmps35
  go_wp2_with (fail)
  go_loopw [3, 4, 5] (fun t3 t4 t5 W => ∃ (i f : Nat) (l : List (List UInt8)), i ≤ s.length + 1 ∧ f ≤ i ∧ l.length ≤ i ∧ t5 = .int .i64 i ∧ t4 = .int .i64 f ∧ Hid (W.ownsRow w.heap.size 9 1 t3 l.length (strs l)) ∧ Hid (Below w.heap.size w W) ∧
      Hid ((i ≤ s.length → cutAt 10 [] (s.take i) = l ++ [(s.take i).drop f]) ∧ (i = s.length + 1 → l = L))) (fun _ _ t5 _ => s.length + 1 - (intOf t5).toNat)
  case atStart => exact ⟨0, 0, [], by omega, by omega, by simp, rfl, rfl, Lib.hid (World.ownsRow_nil _ _ _ _), Lib.hid (Below.refl _ _), Lib.hid ⟨fun _ => by simp [cutAt], fun h => by omega⟩⟩
  case round =>
    obtain ⟨i, f, l, hi, hf, hll, rfl, rfl, HO, HB, HE⟩ := hrel
    have k0 : (0 : Int) ≤ (i : Int) := by omega
    have f0 : (0 : Int) ≤ (f : Int) := by omega
    by_cases hle : i ≤ s.length
    · have k1 : (i : Int) ≤ s.length := by omega
      have e1 : IntKind.i64.wrap ((i : Int) + 1) = (i : Int) + 1 := IntWalk.i64_in _ (by omega)
      have hcut := HE.out.1 hle
      have f1 : (f : Int) ≤ (i : Int) := by omega
      have f2 : f ≤ i := hf
      have hpe : (s.take i).drop f = (s.drop f).take (i - f) := by rw [List.drop_take]
      rw [hpe] at hcut
      obtain ⟨pc, hpc⟩ : ∃ p, (s.drop f).take (i - f) = p := ⟨_, rfl⟩
      rw [hpc] at hcut
      have HAP : Hid (∀ (v1 : Value) (w5 : World), w5.ownsRow w.heap.size 9 1 v1 (l.length + 1) (strs l ++ [.string ⟨pc.toArray⟩]) → w5.ownsRow w.heap.size 9 1 v1 (l ++ [pc]).length (strs (l ++ [pc]))) := Lib.hid (fun v1 w5 h => by rw [strs_append, List.length_append]; exact h)
      by_cases heq : i = s.length
      · have gq : ((i : Int) == (s.length : Int)) = true := by rw [beq_iff_eq]; omega
        have HE2 : Hid ((i + 1 ≤ s.length → cutAt 10 [] (s.take (i + 1)) = (l ++ [pc]) ++ [(s.take (i + 1)).drop (i + 1)]) ∧ (i + 1 = s.length + 1 → l ++ [pc] = L)) := Lib.hid ⟨fun h => by omega, fun _ => by
          rw [heq, List.take_of_length_le (Nat.le_refl _)] at hcut
          rw [← hcut]; exact HL.out⟩
        have HPC := Lib.hid hpc
        clear hcut heq HE hpe hpc
        go_wp2_with (at_builtin; refine wpList_append_two rfl _ _ 44 rfl w.heap.size 9 i0 _ 1 16 Tryd.underlying44 HI.out hz0 hz1 hz2 rfl (by decide) _ _ _ rfl (HO.out.alloc _) ⟨wr.heap.size, 0, none⟩ 1 1 [.string ⟨((s.drop f).take (i - f)).toArray⟩] rfl rfl (laid_one _ _ _) (one_oneCell rfl) ?c3 ?c4 ?c5 ?_)
        case c3 => unfold maxLen; omega
        case c4 => omega
        case c5 => have := HB.out.size; simp; omega
        intro v1 w5 hown5 hg5 hl5
        have hb5 : Below w.heap.size w w5 := (HB.out.alloc HB.out.size _).grown hg5 (by have := HB.out.size; simp; omega) (fun k hk => (HO.out.lt k hk).1)
        rw [HPC.out] at hown5
        have HO5 := Lib.hid (HAP.out _ _ hown5)
        have HB5 := Lib.hid hb5
        clear hown5 hg5 hl5 hb5 HO HB HAP
        go_wp2_with (fail)
        go_roundw
        case rel => exact ⟨i + 1, i + 1, l ++ [pc], by omega, by omega, by simp; omega, by go_num, by go_num, HO5, HB5, HE2⟩
        case measure => simp [intOf]; omega
      · have hlt : i < s.length := by omega
        have k2 : (i : Int) < s.length := by omega
        have gq : ((i : Int) == (s.length : Int)) = false := by rw [beq_eq_false_iff_ne]; omega
        have hsn := cutAt_snoc 10 [] s[i] (s.take i) l pc hcut
        rw [← List.take_succ_eq_append_getElem hlt] at hsn
        have hpn : (s.take (i + 1)).drop f = pc ++ [s[i]] := by
          rw [List.take_succ_eq_append_getElem hlt, List.drop_append_of_le_length (by rw [List.length_take]; omega), hpe, hpc]
        by_cases h10 : s[i] = 10
        · have g10 : ((s[i].toNat : Int) == 10) = true := by rw [h10]; rfl
          rw [if_pos h10, List.append_nil] at hsn
          have HE2 : Hid ((i + 1 ≤ s.length → cutAt 10 [] (s.take (i + 1)) = (l ++ [pc]) ++ [(s.take (i + 1)).drop (i + 1)]) ∧ (i + 1 = s.length + 1 → l ++ [pc] = L)) := Lib.hid ⟨fun _ => by
            rw [hsn, List.drop_of_length_le (by rw [List.length_take]; omega), List.append_assoc]; rfl, fun h => by omega⟩
          have HPC := Lib.hid hpc
          clear hcut heq HE hpe hpc hsn hpn h10
          generalize hx : s[i] = x at *
          go_wp2_with (at_builtin; refine wpList_append_two rfl _ _ 44 rfl w.heap.size 9 i0 _ 1 16 Tryd.underlying44 HI.out hz0 hz1 hz2 rfl (by decide) _ _ _ rfl (HO.out.alloc _) ⟨wr.heap.size, 0, none⟩ 1 1 [.string ⟨((s.drop f).take (i - f)).toArray⟩] rfl rfl (laid_one _ _ _) (one_oneCell rfl) ?c3 ?c4 ?c5 ?_)
          case c3 => unfold maxLen; omega
          case c4 => omega
          case c5 => have := HB.out.size; simp; omega
          intro v1 w5 hown5 hg5 hl5
          have hb5 : Below w.heap.size w w5 := (HB.out.alloc HB.out.size _).grown hg5 (by have := HB.out.size; simp; omega) (fun k hk => (HO.out.lt k hk).1)
          rw [HPC.out] at hown5
          have HO5 := Lib.hid (HAP.out _ _ hown5)
          have HB5 := Lib.hid hb5
          clear hown5 hg5 hl5 hb5 HO HB HAP
          go_wp2_with (fail)
          go_roundw
          case rel => exact ⟨i + 1, i + 1, l ++ [pc], by omega, by omega, by simp; omega, by go_num, by go_num, HO5, HB5, HE2⟩
          case measure => simp [intOf]; omega
        · have g10 : ((s[i].toNat : Int) == 10) = false := by
            rw [beq_eq_false_iff_ne]; intro e; exact h10 (UInt8.toNat_inj.1 (by simp; omega))
          rw [if_neg h10] at hsn
          have HE2 : Hid ((i + 1 ≤ s.length → cutAt 10 [] (s.take (i + 1)) = l ++ [(s.take (i + 1)).drop f]) ∧ (i + 1 = s.length + 1 → l = L)) := Lib.hid ⟨fun _ => by rw [hsn, hpn], fun h => by omega⟩
          clear hcut heq HE hpe hpc hsn hpn h10 HAP
          generalize hx : s[i] = x at *
          go_wp2_with (fail)
          go_roundw
          case rel => exact ⟨i + 1, f, l, by omega, by omega, by omega, by go_num, rfl, HO, HB, HE2⟩
          case measure => simp [intOf]; omega
    · obtain rfl : i = s.length + 1 := by omega
      have k1 : ¬ ((s.length + 1 : Nat) : Int) ≤ s.length := by omega
      have hl := HE.out.2 rfl
      subst hl
      clear HE
      go_wp2_with (fail)
      go_ret
      exact ⟨_, rfl, HO.out, HB.out⟩
end Go.Proofs.YtoifnnhbejofjaaDoor
end

/- The document's numbers. -/
section
set_option linter.unusedVariables false
namespace Go.Proofs.YtoifnnhbejofjaaDoor
open Go.RowKit Plain

theorem decL_len (n : Nat) : (decL n).length ≤ n + 1 := by
  induction n using Nat.strongRecOn with
  | ind n ih =>
    by_cases h : n < 10
    · rw [decL_lo h]; simp
    · rw [decL_hi (by omega)]
      have := ih (n / 10) (by omega)
      simp only [List.length_append, List.length_singleton]
      omega
theorem one_byte (w : World) (n : Nat) (hn : n < 10) : (convert 56 9 (.slice (some ⟨w.heap.size, 0, none⟩) 1 1)).run Tryd.prog (w.alloc (.cells #[.int .u8 (48 + (n : Int))] 5)) = .ok (.string ⟨#[UInt8.ofNat (48 + n)]⟩) (w.alloc (.cells #[.int .u8 (48 + (n : Int))] 5)) := by
  have h := run_convert_laid (P := Tryd.prog) w 56 5 9 Tryd.underlying56 Tryd.underlying5 Tryd.underlying9 [48 + (n : Int)] 1 1 rfl (0, 0)
  have e : UInt8.ofNat (48 + (n : Int)).toNat = UInt8.ofNat (48 + n) := by congr 1
  simpa [e] using h

theorem one_byte_at (w : World) (g n : Nat) (hn : n < 10) (h : w.heap[g]? = some (.cells #[.int .u8 (48 + (n : Int))] 5 (0, 0))) : (convert 56 9 (.slice (some ⟨g, 0, none⟩) 1 1)).run Tryd.prog w = .ok (.string ⟨#[UInt8.ofNat (48 + n)]⟩) w := by
  have h2 : (convert 56 9 (.slice (some ⟨g, 0, none⟩) 1 1)).run Tryd.prog w = .ok (.string ⟨([48 + (n : Int)].map fun n => UInt8.ofNat n.toNat).toArray⟩) w := run_convert_bytes_arg (P := Tryd.prog) w 56 5 Tryd.underlying56 Tryd.underlying5 g 0 1 1 [48 + (n : Int)] rfl (fun i hi => by
    rw [Nat.zero_add, cell_of_row _ _ i _ _ _ h]
    have : i = 0 := by simpa using hi
    subst this; rfl) 9 Tryd.underlying9
  have e : UInt8.ofNat (48 + (n : Int)).toNat = UInt8.ofNat (48 + n) := by congr 1
  simpa [e] using h2
set_option maxHeartbeats 2000000 in
set_option maxRecDepth 100000 in
theorem decimal_any (n : Nat) : n ≤ 4294967296 → ∀ w : World, Calls Tryd.prog 37 #[.int .i64 (n : Int)] w (Ret w (.string ⟨(decL n).toArray⟩)) := by
  induction n using Nat.strongRecOn with
  | ind n ih =>
    intro hn w
    by_cases h10 : n < 10
    · rw [decL_lo h10]
      have hcv := one_byte w n h10
      have g1 : (n : Int) < 10 := by omega
      have e1 : IntKind.i64.wrap (48 + (n : Int)) = 48 + (n : Int) := IntWalk.i64_in _ (by omega)
      have e2 : IntKind.u8.wrap (48 + (n : Int)) = 48 + (n : Int) := IntWalk.u8_in _ (by omega)
      clear ih
      go_enter Tryd.func37, Tryd.ntmps37
      go_wp2_with (fail)
      go_ret
      exact ⟨by simp, (Below.refl _ _).alloc (Nat.le_refl _) _⟩
    · have hm : n % 10 < 10 := Nat.mod_lt _ (by omega)
      have HD := Lib.hid (fun W => ih (n / 10) (by omega) (by omega) W)
      have HCV := Lib.hid (fun W => one_byte W (n % 10) hm)
      have HDL := Lib.hid (decL_hi (n := n) (by omega))
      have q1 : (n : Int).tdiv 10 = ((n / 10 : Nat) : Int) := by rw [Int.tdiv_eq_ediv_of_nonneg (by omega)]; omega
      have q2 : (n : Int).tmod 10 = ((n % 10 : Nat) : Int) := by rw [Int.tmod_eq_emod_of_nonneg (by omega)]; omega
      have han : n / 10 ≤ n := Nat.div_le_self _ _
      generalize n / 10 = a at *
      generalize n % 10 = b at *
      have g1 : ¬ (n : Int) < 10 := by omega
      have e1 : IntKind.i64.wrap (48 + (b : Int)) = 48 + (b : Int) := IntWalk.i64_in _ (by omega)
      have e2 : IntKind.u8.wrap (48 + (b : Int)) = 48 + (b : Int) := IntWalk.u8_in _ (by omega)
      have hcv1 := fun W : World => one_byte_at (W.alloc (.cells #[.int .u8 (48 + (b : Int))] 5)) W.heap.size b hm (heap_alloc_new _ _)
      have hcv2 := fun W : World => one_byte_at (W.alloc (.cells #[.int .u8 (48 + (b : Int))] 5)).drew W.heap.size b hm (heap_alloc_new _ _)
      have hcv3 := fun W : World => one_byte_at (W.drew.alloc (.cells #[.int .u8 (48 + (b : Int))] 5)) W.heap.size b hm (heap_alloc_new W.drew _)
      have HAT := Lib.hid (fun W g h => one_byte_at W g b hm h)
      have e3 : IntKind.i64.wrap (a : Int) = (a : Int) := IntWalk.i64_in _ (by omega)
      have hdl := decL_len a
      obtain ⟨da, hda⟩ : ∃ d, decL a = d := ⟨_, rfl⟩
      rw [hda] at HD HDL hdl
      have hdb : da.length ≤ 4294967297 := by omega
      clear hda hdl han hm
      clear ih
      go_enter Tryd.func37, Tryd.ntmps37
      go_wp2_with (fail)
      go_region_with (go_at_call 37; refine (HD.out _).mono ?_; rintro e w1 ⟨rfl, hw1⟩; first | (have hcv4 := HAT.out w1 w.heap.size ((hw1.block w.heap.size (by simp)).trans (heap_alloc_new w _)); have HX1 := Lib.hid hw1; clear hw1) | (have hcv4 := HAT.out w1 w.heap.size ((hw1.block w.heap.size (by simp)).trans (heap_alloc_new w.drew _)); have HX1 := Lib.hid hw1; clear hw1) | (have HX1 := Lib.hid hw1; clear hw1))
      all_goals
        go_wp2_with (fail)
        go_ret
        refine ⟨by rw [HDL.out, show UInt8.ofNat (48 + b) = 48 + UInt8.ofNat b by simp]; rfl, ?_⟩
        have d0 : Below w.heap.size w w.drew := ⟨rfl, rfl, rfl, Nat.le_refl _, fun _ _ => rfl⟩
        have d1 : ∀ o, Below w.heap.size w (w.alloc o).drew := fun o => ((Below.refl _ _).alloc (Nat.le_refl _) o).trans ⟨rfl, rfl, rfl, Nat.le_refl _, fun _ _ => rfl⟩
        have d2 : ∀ o, Below w.heap.size w (w.drew.alloc o) := fun o => d0.alloc (Nat.le_refl _) o
        first
          | exact (d0.trans HX1.out).alloc (d0.trans HX1.out).size _
          | exact (d1 _).trans (HX1.out.mono (d1 _).size)
          | exact (d2 _).trans (HX1.out.mono (d2 _).size)
end Go.Proofs.YtoifnnhbejofjaaDoor
end

/- Plain laws for the document's reader of patterns: runes by the bytes behind their first, the first byte that is part of no rune, what stands between brackets ends with no lone backslash. No program in sight. -/
section
namespace Go.Proofs.YtoifnnhbejofjaaDoor.Plain
open Go.Lib

def contB (c : UInt8) : Bool := decide (128 ≤ c.toNat) && decide (c.toNat ≤ 191)
theorem contB_iff {c : UInt8} : contB c = true ↔ 128 ≤ c.toNat ∧ c.toNat ≤ 191 := by unfold contB; simp
theorem form_cont {t : List UInt8} {v : Nat} (h : Form t v) : (∀ i, 1 ≤ i → i < t.length → contB (t.getD i 0) = true) ∧ contB (t.getD 0 0) = false := by
  have hf : ∀ c : UInt8, (c.toNat < 128 ∨ 192 ≤ c.toNat) → contB c = false := fun c hc => by
    rw [← Bool.not_eq_true, contB_iff]; omega
  cases h with
  | one a ha => exact ⟨fun i h1 h2 => by simp at h2; omega, hf _ (by simpa using .inl ha)⟩
  | two a b _ ha hb _ _ =>
    refine ⟨fun i h1 h2 => ?_, hf _ (by right; show 192 ≤ a.toNat; omega)⟩
    simp at h2
    obtain rfl : i = 1 := by omega
    rw [contB_iff]; show 128 ≤ b.toNat ∧ b.toNat ≤ 191; omega
  | three a b c _ ha hb hc _ _ =>
    refine ⟨fun i h1 h2 => ?_, hf _ (by right; show 192 ≤ a.toNat; omega)⟩
    simp at h2
    rw [contB_iff]
    rcases (show i = 1 ∨ i = 2 by omega) with rfl | rfl
    · show 128 ≤ b.toNat ∧ b.toNat ≤ 191; omega
    · show 128 ≤ c.toNat ∧ c.toNat ≤ 191; omega
  | four a b c d _ ha hb hc hd _ _ =>
    refine ⟨fun i h1 h2 => ?_, hf _ (by right; show 192 ≤ a.toNat; omega)⟩
    simp at h2
    rw [contB_iff]
    rcases (show i = 1 ∨ i = 2 ∨ i = 3 by omega) with rfl | rfl | rfl
    · show 128 ≤ b.toNat ∧ b.toNat ≤ 191; omega
    · show 128 ≤ c.toNat ∧ c.toNat ≤ 191; omega
    · show 128 ≤ d.toNat ∧ d.toNat ≤ 191; omega
theorem runeT_getD {l : List UInt8} {i : Nat} (h : i < runeW l) : (runeT l).getD i 0 = l.getD i 0 := by
  unfold runeT
  rw [List.getD_eq_getElem?_getD, List.getD_eq_getElem?_getD, List.getElem?_take_of_lt h]
/-- the bytes of a rune behind its first one, and the byte behind the rune -/
theorem rune_cont {l : List UInt8} (hne : l ≠ []) (hv : validD l = true) : (∀ i, 1 ≤ i → i < runeW l → contB (l.getD i 0) = true) ∧ contB (l.getD 0 0) = false := by
  obtain ⟨h1, _⟩ := valid_next hne hv
  obtain ⟨hr, _, hlen⟩ := runeT_rune hne h1
  obtain ⟨a, b⟩ := form_cont (rune_form hr)
  refine ⟨fun i q1 q2 => ?_, ?_⟩
  · rw [← runeT_getD q2]; exact a i q1 (by rw [hlen]; exact q2)
  · rw [← runeT_getD (show 0 < runeW l by omega)]; exact b
theorem rune_stop {l : List UInt8} (hne : l ≠ []) (hv : validD l = true) (h : runeW l < l.length) : contB (l.getD (runeW l) 0) = false := by
  obtain ⟨_, hv2⟩ := valid_next hne hv
  have hne2 : l.drop (runeW l) ≠ [] := by intro e; have := congrArg List.length e; simp at this; omega
  have := (rune_cont hne2 hv2).2
  rw [List.getD_eq_getElem?_getD, List.getElem?_drop, Nat.add_zero, ← List.getD_eq_getElem?_getD] at this
  exact this

/-- no lone backslash at the end -/
def evenR : Bool → List (List UInt8) → Bool
  | e, [] => !e
  | e, x :: l => if x = [92] ∧ e = false then evenR true l else evenR false l
theorem closeF_skip (from' : Nat) : ∀ (k : Nat) (r : List UInt8) (i : Nat), (∀ j, j < k → 128 ≤ (r.getD j 0).toNat) → k ≤ r.length → closeF from' i r = closeF from' (i + k) (r.drop k) := by
  intro k
  induction k with
  | zero => intro r i _ _; simp
  | succ k ih =>
    intro r i h hk
    cases r with
    | nil => simp at hk
    | cons c r =>
      have h0 : 128 ≤ c.toNat := by simpa using h 0 (by omega)
      have e : closeF from' i (c :: r) = closeF from' (i + 1) r := by
        conv => lhs; unfold closeF
        rw [if_neg (fun e => by subst e; revert h0; decide), if_neg (fun e => by subst e; revert h0; decide), if_neg (fun e => by subst e; revert h0; decide)]
      rw [e, ih r (i + 1) (fun j hj => by simpa using h (j + 1) (by omega)) (by simpa using hk), List.drop_succ_cons]
      congr 1; omega
theorem runes_take {l : List UInt8} {n : Nat} (hne : l ≠ []) (hw : 1 ≤ runeW l) (h : runeW l ≤ n) (hn : n ≤ l.length) : runesP (l.take n) = runeT l :: runesP ((l.drop (runeW l)).take (n - runeW l)) := by
  have hne2 : l.take n ≠ [] := by
    intro e
    have h0 : (l.take n).length = 0 := by rw [e]; rfl
    have hl : 0 < l.length := List.length_pos_iff.2 hne
    rw [List.length_take] at h0
    omega
  have hwt := runeW_take hw h hn
  rw [runesP_step hne2 (by rw [hwt]; exact hw), hwt]
  congr 1
  · unfold runeT
    rw [hwt, List.take_take, Nat.min_eq_left h]
  · rw [List.drop_take]
theorem inner_even (from' : Nat) : ∀ (m : Nat) (r : List UInt8) (i e : Nat), r.length ≤ m → validD r = true → closeF from' i r = some e → evenR false (runesP (r.take (e - i))) = true := by
  intro m
  induction m with
  | zero =>
    intro r i e h _ hc
    have : r = [] := List.eq_nil_of_length_eq_zero (by omega)
    subst this
    simp [closeF] at hc
  | succ m ih =>
    intro r i e h hv hc
    cases r with
    | nil => simp [closeF] at hc
    | cons c q =>
      have hb0 := closeF_le from' _ (c :: q) i e (Nat.le_refl _) hc
      simp only [List.length_cons] at h
      by_cases h93 : c = 93
      · subst h93
        unfold closeF at hc
        rw [if_neg (by decide), if_neg (by decide), if_pos rfl] at hc
        split at hc
        · cases hc
        · injection hc with hc
          subst hc
          rw [Nat.sub_self, List.take_zero]; rfl
      by_cases h92 : c = 92
      · subst h92
        unfold closeF at hc
        rw [if_neg (by decide), if_pos rfl] at hc
        cases q with
        | nil => cases hc
        | cons d r' =>
          simp only at hc
          split at hc
          · cases hc
          have hvd : validD (d :: r') = true := by rwa [validD_cons _ _ (by decide)] at hv
          have hdne : (d :: r') ≠ [] := by simp
          obtain ⟨w1, w2⟩ := valid_next hdne hvd
          have hwl := runeW_le' hdne
          have hcont := (rune_cont hdne hvd).1
          have hsk := closeF_skip from' (runeW (d :: r') - 1) r' (i + 2) (fun j hj => by
            have := (contB_iff.1 (hcont (j + 1) (by omega) (by omega))).1
            simpa using this) (by simp at hwl; omega)
          rw [hc] at hsk
          have hdr : r'.drop (runeW (d :: r') - 1) = (d :: r').drop (runeW (d :: r')) := by
            conv => rhs; rw [show runeW (d :: r') = (runeW (d :: r') - 1) + 1 by omega]
            rw [List.drop_succ_cons]
          rw [hdr, show i + 2 + (runeW (d :: r') - 1) = i + 1 + runeW (d :: r') by omega] at hsk
          have hb := closeF_le from' _ _ _ _ (Nat.le_refl _) hsk.symm
          have hi := ih _ _ _ (by simp at h ⊢; omega) w2 hsk.symm
          have hone : runeW (92 :: d :: r') = 1 := by have := runeW_asc (92 :: d :: r') 0 (by show (92 : UInt8).toNat < 128; decide); simpa using this
          have h1 := runes_take (l := 92 :: d :: r') (n := e - i) (by simp) (by omega) (by omega) (by have := hb0.2.1; omega)
          rw [hone] at h1
          have h2 := runes_take (l := d :: r') (n := e - i - 1) hdne w1 (by omega) (by have := hb0.2.1; simp at this ⊢; omega)
          rw [h1]
          have ht : runeT (92 :: d :: r') = [92] := by unfold runeT; rw [hone]; rfl
          rw [ht]
          show evenR true (runesP ((d :: r').take (e - i - 1))) = true
          rw [h2, show e - i - 1 - runeW (d :: r') = e - (i + 1 + runeW (d :: r')) by omega]
          unfold evenR
          rw [if_neg (fun c => by cases c.2)]
          exact hi
      · by_cases h47 : c = 47
        · subst h47
          rw [closeF_slash] at hc; cases hc
        have hne : (c :: q) ≠ [] := by simp
        obtain ⟨w1, w2⟩ := valid_next hne hv
        have hwl := runeW_le' hne
        have hcont := (rune_cont hne hv).1
        unfold closeF at hc
        rw [if_neg h47, if_neg h92, if_neg h93] at hc
        have hsk := closeF_skip from' (runeW (c :: q) - 1) q (i + 1) (fun j hj => by
          have := (contB_iff.1 (hcont (j + 1) (by omega) (by omega))).1
          simpa using this) (by simp at hwl; omega)
        rw [hc] at hsk
        have hdr : q.drop (runeW (c :: q) - 1) = (c :: q).drop (runeW (c :: q)) := by
          conv => rhs; rw [show runeW (c :: q) = (runeW (c :: q) - 1) + 1 by omega]
          rw [List.drop_succ_cons]
        rw [hdr, show i + 1 + (runeW (c :: q) - 1) = i + runeW (c :: q) by omega] at hsk
        have hb := closeF_le from' _ _ _ _ (Nat.le_refl _) hsk.symm
        have hi := ih _ _ _ (by simp; omega) w2 hsk.symm
        have h1 := runes_take (l := c :: q) (n := e - i) hne w1 (by omega) (by have := hb0.2.1; simp at this ⊢; omega)
        rw [h1, show e - i - runeW (c :: q) = e - (i + runeW (c :: q)) by omega]
        have ht : runeT (c :: q) ≠ [92] := by
          intro e1
          have : (runeT (c :: q)).head? = some 92 := by rw [e1]; rfl
          unfold runeT at this
          obtain ⟨k, hk⟩ : ∃ k, runeW (c :: q) = k + 1 := ⟨runeW (c :: q) - 1, by omega⟩
          rw [hk, List.take_succ_cons] at this
          injection this with this
          exact h92 this
        unfold evenR
        rw [if_neg (fun c => ht c.1)]
        exact hi
/-- what stands between brackets, with the '!' struck, ends with no lone backslash -/
theorem close_even {q : List UInt8} {e : Nat} (hv : validD (91 :: q) = true) (h : closeP (91 :: q) = some e) : evenR false (runesP (((91 :: q).take e).drop (setFrom (91 :: q)))) = true := by
  unfold closeP at h
  have hv2 : validD ((91 :: q).drop (setFrom (91 :: q))) = true := by
    unfold setFrom
    split
    · rename_i h33
      cases q with
      | nil => simp at h33
      | cons c q =>
        simp only [List.drop_succ_cons, List.drop_zero, List.head?_cons, Option.some.injEq] at h33
        subst h33
        rw [validD_cons _ _ (by decide), validD_cons _ _ (by decide)] at hv
        exact hv
    · rw [validD_cons _ _ (by decide)] at hv
      exact hv
  have := inner_even _ _ _ _ _ (Nat.le_refl _) hv2 h
  rw [List.drop_take]
  exact this
theorem runeW_ext {l : List UInt8} {e : Nat} (h : 1 ≤ runeW (l.take e)) (hel : e ≤ l.length) (hne : l.take e ≠ []) : runeW l = runeW (l.take e) := by
  obtain ⟨e2, hok⟩ := runeW_pos h
  have hwl := runeW_le' hne
  have hlen : (l.take e).length = e := by simp; omega
  rw [hlen] at hwl
  have hg : ∀ i, i < e → (l.take e).getD i 0 = l.getD i 0 := fun i hi => by
    rw [List.getD_eq_getElem?_getD, List.getD_eq_getElem?_getD, List.getElem?_take_of_lt hi]
  have hd : decodeN (l.take e).length ((l.take e).getD 0 0).toNat ((l.take e).getD 1 0).toNat ((l.take e).getD 2 0).toNat ((l.take e).getD 3 0).toNat = ((decodeL (l.take e)).1, runeW (l.take e)) := by
    rw [← decodeL_N, ← e2]
  have hc := decodeN_at hd (by rw [← e2]; exact hok) (c1 := (l.getD 1 0).toNat) (c2 := (l.getD 2 0).toNat) (c3 := (l.getD 3 0).toNat) (fun q => by rw [hg 1 (by omega)]) (fun q => by rw [hg 2 (by omega)]) (fun q => by rw [hg 3 (by omega)]) (n := l.length) (by omega)
  rw [hg 0 (by omega)] at hc
  have hd2 : decodeL l = ((decodeL (l.take e)).1, runeW (l.take e)) := by rw [decodeL_N]; exact hc
  have hu : runeW l = if (decodeL l).1 = 65533 ∧ (decodeL l).2 = 1 then 0 else (decodeL l).2 := rfl
  rw [hu, hd2]
  rw [if_neg (by rw [← e2]; exact hok)]
/-- the first byte that is part of no rune: a valid beginning that stops short of it stops between two runes -/
theorem bad_before : ∀ (n : Nat) (l : List UInt8) (k at' : Nat), l.length ≤ n → at' < l.length → validD (l.take at') = true → (∀ j, badAt k l = some j → k + at' < j) → 1 ≤ runeW (l.drop at') := by
  intro n
  induction n with
  | zero => intro l k at' h1 h2; omega
  | succ n ih =>
    intro l k at' h1 h2 hv hb
    have hne : l ≠ [] := fun e => by rw [e] at h2; simp at h2
    have hst := badAt_step (k := k) hne
    by_cases h0 : runeW l = 0
    · rw [if_pos h0] at hst
      have := hb k hst
      omega
    · rw [if_neg h0] at hst
      by_cases ha : at' = 0
      · subst ha; simpa using (show 1 ≤ runeW l by omega)
      · have hle : runeW l ≤ at' := by
          -- a valid beginning's first rune is this one
          have hne2 : l.take at' ≠ [] := by
            intro e
            have h0 : (l.take at').length = 0 := by rw [e]; rfl
            rw [List.length_take] at h0
            omega
          obtain ⟨v1, _⟩ := valid_next hne2 hv
          have h4 := runeW_le' hne2
          rw [runeW_ext v1 (by omega) hne2]
          rw [List.length_take] at h4
          omega
        have hdt : validD ((l.drop (runeW l)).take (at' - runeW l)) = true := by
          have hw := runeW_take (show 1 ≤ runeW l by omega) hle (by omega)
          have hne2 : l.take at' ≠ [] := by
            intro e
            have h0 : (l.take at').length = 0 := by rw [e]; rfl
            rw [List.length_take] at h0
            omega
          have := (valid_next hne2 hv).2
          rw [hw, List.drop_take] at this
          exact this
        have := ih (l.drop (runeW l)) (k + runeW l) (at' - runeW l) (by simp; omega) (by simp; omega) hdt (fun j hj => by
          have := hb j (by rw [hst]; exact hj)
          omega)
        rw [List.drop_drop, show runeW l + (at' - runeW l) = at' by omega] at this
        exact this
end Go.Proofs.YtoifnnhbejofjaaDoor.Plain
end
