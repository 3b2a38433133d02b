/- name.Fold, name.Clash. -/
import Derived.Test.YtpfpjinkifggdaaDoorNameFns
import Derived.Deep.QuietTactic
import Derived.BigQuiet
namespace Go.Proofs.YtpfpjinkifggdaaDoor
open Go.RowKit Plain

/-- a text k bytes of which have been made small -/
def foldAt (s : List UInt8) (k : Nat) : List UInt8 := (s.take k).map lowB ++ s.drop k
theorem foldAt_length (s : List UInt8) (k : Nat) : (foldAt s k).length = s.length := by unfold foldAt; simp; omega
theorem foldAt_zero (s : List UInt8) : foldAt s 0 = s := by simp [foldAt]
theorem foldAt_end (s : List UInt8) : foldAt s s.length = foldM s := by simp [foldAt, foldM]
theorem foldAt_get (s : List UInt8) (k : Nat) (h : k < s.length) : (foldAt s k)[k]'(by rw [foldAt_length]; exact h) = s[k] := by
  unfold foldAt
  rw [List.getElem_append_right (by simp; omega)]
  simp [Nat.min_eq_left (Nat.le_of_lt h)]
theorem foldAt_step (s : List UInt8) (k : Nat) (h : k < s.length) : foldAt s (k + 1) = (foldAt s k).set k (lowB s[k]) := by
  unfold foldAt
  rw [List.take_succ_eq_append_getElem h, List.map_append, List.append_assoc]
  rw [List.set_append_right _ _ (by simp; omega)]
  have e : k - (List.map lowB (List.take k s)).length = 0 := by simp; omega
  rw [e, List.drop_eq_getElem_cons h]
  rfl
theorem foldAt_same (s : List UInt8) (k : Nat) (h : k < s.length) (e : lowB s[k] = s[k]) : foldAt s (k + 1) = foldAt s k := by
  rw [foldAt_step s k h, e]
  conv => lhs; rw [← foldAt_get s k h]
  exact List.set_getElem_self _
theorem lowB_toNat (x : UInt8) (h1 : 65 ≤ x.toNat) (h2 : x.toNat ≤ 90) : lowB x = UInt8.ofNat (x.toNat + 32) := by
  unfold lowB
  rw [if_pos ⟨UInt8.le_iff_toNat_le.2 (by simpa using h1), UInt8.le_iff_toNat_le.2 (by simpa using h2)⟩]
  apply UInt8.toNat.inj
  simp [UInt8.toNat_add]
theorem lowB_out (x : UInt8) (h : x.toNat < 65 ∨ 90 < x.toNat) : lowB x = x := by
  unfold lowB
  rw [if_neg]
  rintro ⟨h1, h2⟩
  have h1 := UInt8.le_iff_toNat_le.1 h1
  have h2 := UInt8.le_iff_toNat_le.1 h2
  simp at h1 h2
  omega
theorem frozen_mark {W : World} {b cap j : Nat} {C : Array Value} {e : TypeId} (hb : W.heap[b]? = some (.cells C e (cap, cap + 1))) (h : j < cap) : W.frozen? ⟨b, j, none⟩ = false := by
  unfold World.frozen?
  rw [hb]
  simp; omega

set_option maxHeartbeats 2000000 in
theorem Fold_any (s : List UInt8) (w : World) (hs : s.length ≤ 9223372036854775807) :
    Calls Tryd.prog 10 #[.string ⟨s.toArray⟩] w (Ret w (.string ⟨(foldM s).toArray⟩)) := by
  obtain ⟨cap, C, m, hconv, hcap, hCs, rfl, hC⟩ := conv_bytes (P := Tryd.prog) w 9 37 5 Tryd.underlying9 Tryd.underlying37 Tryd.underlying5 s
  have hh := heap_alloc_new w (.cells C 5 (cap, cap + 1))
  have HC := Lib.hid hC
  have HH := Lib.hid hh
  clear hC hh
  go_enter Tryd.func10, Tryd.ntmps10
  go_wp2_with (fail)
  clear hconv
  go_loopw [10] (fun t10 W => ∃ (k : Nat) (D : Array Value), k ≤ s.length ∧ t10 = .int .i64 k ∧ Hid (W.heap[w.heap.size]? = some (.cells D 5 (cap, cap + 1))) ∧ Hid (∀ j (h : j < (foldAt s k).length), D[j]? = some (.int .u8 ((foldAt s k)[j].toNat : Int))) ∧ Hid (Below w.heap.size w W)) (fun t10 _ => s.length - (intOf t10).toNat)
  case atStart =>
    exact ⟨0, C, by omega, rfl, HH, Lib.hid (by rw [foldAt_zero]; exact HC.out), Lib.hid ((Below.refl _ _).alloc (Nat.le_refl _) _).drew⟩
  case round =>
    clear HC HH
    obtain ⟨k, D, hk, rfl, HD, HV, HB⟩ := hrel
    have i0 : (0 : Int) ≤ k := by omega
    by_cases hlt : k < s.length
    · have i1 : (k : Int) < s.length := by omega
      have hcell : wr.cell? ⟨w.heap.size, k, none⟩ = some (.int .u8 (s[k].toNat : Int)) := by
        rw [cell_of_row _ _ _ D 5 (cap, cap + 1) HD.out, HV.out k (by rw [foldAt_length]; exact hlt), foldAt_get s k hlt]
      have hfz := frozen_mark (j := k) HD.out (by omega)
      have hstep := foldAt_step s k hlt
      have hsame := foldAt_same s k hlt
      have hlen := foldAt_length s k
      generalize s[k] = x at *
      have hx0 : (0 : Int) ≤ x.toNat := by omega
      have hx255 := x.toNat_lt
      by_cases hr : 65 ≤ x.toNat ∧ x.toNat ≤ 90
      · rw [lowB_toNat x hr.1 hr.2] at hstep
        have r1 : (65 : Int) ≤ x.toNat := by omega
        have r2 : (x.toNat : Int) ≤ 90 := by omega
        have HSTEP := Lib.hid hstep
        have HLEN := Lib.hid hlen
        clear hstep hsame hr hlen
        go_wp2_with (fail)
        go_roundw
        case rel =>
          refine ⟨k + 1, _, by omega, by go_num, Lib.hid (heap_set HD.out k _), Lib.hid ?_, Lib.hid (HB.out.setCell (p := ⟨w.heap.size, k, none⟩) (Nat.le_refl _) _)⟩
          have hb := bytes_set (s := foldAt s k) (m := foldAt s (k + 1)) (f := k) (x := x.toNat + 32) HV.out (by rw [HLEN.out]; exact hlt) (by omega) HSTEP.out.symm
          have e : ((x.toNat : Int) + 97 - 65) = ((x.toNat + 32 : Nat) : Int) := by omega
          rw [e]
          exact hb
        case measure => simp [intOf]; omega
      · have HSAME := Lib.hid (hsame (lowB_out x (by omega)))
        clear hstep hsame
        by_cases hl : x.toNat < 65
        · have r1 : (x.toNat : Int) < 65 := by omega
          clear hr
          go_wp2_with (fail)
          go_roundw
          case rel => exact ⟨k + 1, D, by omega, by go_num, HD, by rw [HSAME.out]; exact HV, HB⟩
          case measure => simp [intOf]; omega
        · have r1 : (65 : Int) ≤ x.toNat := by omega
          have r2 : (90 : Int) < x.toNat := by omega
          clear hr
          go_wp2_with (fail)
          go_roundw
          case rel => exact ⟨k + 1, D, by omega, by go_num, HD, by rw [HSAME.out]; exact HV, HB⟩
          case measure => simp [intOf]; omega
    · obtain rfl : k = s.length := by omega
      have hv := HV.out
      rw [foldAt_end] at hv
      have hbk := conv_back (P := Tryd.prog) wr 37 9 5 Tryd.underlying37 Tryd.underlying5 Tryd.underlying9 (foldM s) w.heap.size s.length cap (by simp [foldM]) D (cap, cap + 1) HD.out hv
      clear hv
      go_wp2_with (fail)
      go_ret
      exact ⟨rfl, HB.out⟩

/-- do two texts differ in their letters' size alone? -/
def clashB (p q : List UInt8) : Bool := !(p == q) && foldM p == foldM q

set_option maxHeartbeats 1000000 in
theorem Clash1_any (p q : List UInt8) (b : Nat) (w : World) (hp : p.length ≤ 9223372036854775807) (hq : q.length ≤ 9223372036854775807) (hb : w.cell? ⟨b, 0, none⟩ = some (.string ⟨p.toArray⟩)) :
    Calls Tryd.prog 29 #[.string ⟨q.toArray⟩, .pointer (some ⟨b, 0, none⟩)] w (Ret w (.bool (clashB p q))) := by
  have hlt := World.block_lt_of_cell? _ _ hb
  have HFP := Lib.hid (fun W => Fold_any p W hp)
  have HFQ := Lib.hid (fun W => Fold_any q W hq)
  unfold clashB
  obtain ⟨e1, he1⟩ : ∃ e, (p == q) = e := ⟨_, rfl⟩
  obtain ⟨e2, he2⟩ : ∃ e, (foldM p == foldM q) = e := ⟨_, rfl⟩
  rw [he1, he2]
  cases e1 with
  | true =>
    go_enter Tryd.func29, Tryd.ntmps29
    go_wp2_with (fail)
    go_ret
    exact ⟨rfl, Below.refl _ _⟩
  | false =>
    generalize foldM p = fp at *
    generalize foldM q = fq at *
    go_enter Tryd.func29, Tryd.ntmps29
    go_wp2_with (fail)
    have hc1 : ∀ W, Below w.heap.size w W → W.cell? ⟨b, 0, none⟩ = some (.string ⟨p.toArray⟩) := fun W h => (h.cell (p := ⟨b, 0, none⟩) hlt).trans hb
    refine (HFP.out w).mono ?_
    rintro e w1 ⟨rfl, hw1⟩
    have hb1 := hc1 w1 hw1
    go_wp2_with (fail)
    refine (HFQ.out w1).mono ?_
    rintro e w2 ⟨rfl, hw2⟩
    go_wp2_with (fail)
    go_ret
    exact ⟨by simp, hw1.trans (hw2.mono hw1.size)⟩

/-- the first that clashes with p; -1: none -/
def FirstOut (p : List UInt8) (l : List (List UInt8)) (w : World) (e : Ending) (w' : World) : Prop :=
  ∃ i : Int, e = .returned (.int .i64 i) ∧ ((∃ k : Nat, i = k ∧ k < l.length ∧ clashB p (l.getD k []) = true) ∨ (i = -1 ∧ ∀ k, k < l.length → clashB p (l.getD k []) = false)) ∧ Below w.heap.size w w'

set_option maxHeartbeats 2000000 in
theorem IndexFunc_any (p : List UInt8) (l : List (List UInt8)) (A : Option Addr) (c b : Nat) (w : World) (hr : Reads w 1 A l.length (strs l)) (hl : l.length ≤ 4294967296) (hp : p.length ≤ 9223372036854775807) (hln : ∀ x ∈ l, x.length ≤ 9223372036854775807)
    (hb : w.cell? ⟨b, 0, none⟩ = some (.string ⟨p.toArray⟩)) :
    Calls Tryd.prog 28 #[.slice A l.length c, .func (.func 29) #[] #[.pointer (some ⟨b, 0, none⟩)]] w (FirstOut p l w) := by
  have hlt := World.block_lt_of_cell? _ _ hb
  have HLN := Lib.hid hln
  have HCB := Lib.hid (fun W (h : Below w.heap.size w W) => (h.cell (p := ⟨b, 0, none⟩) hlt).trans hb)
  clear hln hb
  go_enter Tryd.func28, Tryd.ntmps28
  go_wp2_with (fail)
  go_loopw [8] (fun t8 W => ∃ k : Nat, k ≤ l.length ∧ t8 = .int .i64 k ∧ Hid (∀ j, j < k → clashB p (l.getD j []) = false) ∧ Hid (Below w.heap.size w W)) (fun t8 _ => l.length - (intOf t8).toNat)
  case atStart => exact ⟨0, by omega, rfl, Lib.hid (fun j h => by omega), Lib.hid (Below.refl _ _)⟩
  case round =>
    obtain ⟨k, hk, rfl, HN, HB⟩ := hrel
    have hbel := HB.out
    have i0 : (0 : Int) ≤ k := by omega
    by_cases hlt' : k < l.length
    · obtain ⟨ad, rfl, cS⟩ := (hr.below hbel).str_at hlt'
      have i1 : (k : Int) < l.length := by omega
      have hg : l.getD k [] = l[k] := by simp [List.getD, hlt']
      have hm := List.getElem_mem hlt'
      generalize l[k] = q at *
      have HC := Lib.hid (Clash1_any p q b wr hp (HLN.out q hm) (HCB.out wr hbel))
      have HG := Lib.hid hg
      clear hbel hg hm
      cases hcl : clashB p q with
      | true =>
        rw [hcl] at HC
        have HCL := Lib.hid hcl
        clear hcl
        go_wp2_with (fail)
        refine HC.out.mono ?_
        rintro e w1 ⟨rfl, hw1⟩
        go_wp2_with (fail)
        go_ret
        exact ⟨k, rfl, .inl ⟨k, rfl, hlt', by rw [HG.out]; exact HCL.out⟩, HB.out.trans (hw1.mono HB.out.size)⟩
      | false =>
        rw [hcl] at HC
        have HCL := Lib.hid hcl
        clear hcl
        go_wp2_with (fail)
        refine HC.out.mono ?_
        rintro e w1 ⟨rfl, hw1⟩
        have HB1 := Lib.hid (HB.out.trans (hw1.mono HB.out.size))
        clear hw1
        go_wp2_with (fail)
        go_roundw
        case rel => exact ⟨k + 1, by omega, by go_num, Lib.hid (fun j hj => by
          by_cases e : j = k
          · rw [e, HG.out]; exact HCL.out
          · exact HN.out j (by omega)), HB1⟩
        case measure => simp [intOf]; omega
    · obtain rfl : k = l.length := by omega
      clear hbel
      go_wp2_with (fail)
      go_ret
      exact ⟨-1, rfl, .inr ⟨rfl, HN.out⟩, HB.out⟩

def ClashP (l : List (List UInt8)) (i j : Int) : Prop :=
  (∃ i' j' : Nat, i = i' ∧ j = j' ∧ i' < j' ∧ j' < l.length ∧ clashB (l.getD j' []) (l.getD i' []) = true) ∨ (i = -1 ∧ j = -1 ∧ ∀ j' i', i' < j' → j' < l.length → clashB (l.getD j' []) (l.getD i' []) = false)
def ClashOut (l : List (List UInt8)) (w : World) (e : Ending) (w' : World) : Prop :=
  ∃ i j : Int, e = .returned (.tuple #[.int .i64 i, .int .i64 j]) ∧ ClashP l i j ∧ Below w.heap.size w w'

set_option maxHeartbeats 2000000 in
theorem Clash_any (l : List (List UInt8)) (A : Option Addr) (c : Nat) (w : World) (hr : Reads w 1 A l.length (strs l)) (hlc : l.length ≤ c) (hl : l.length ≤ 4294967296) (hln : ∀ x ∈ l, x.length ≤ 9223372036854775807) :
    Calls Tryd.prog 9 #[.slice A l.length c] w (ClashOut l w) := by
  have HLN := Lib.hid hln
  clear hln
  go_enter Tryd.func9, Tryd.ntmps9
  go_wp2_with (fail)
  go_loopw [9] (fun t9 W => ∃ k : Nat, k ≤ l.length ∧ t9 = .int .i64 k ∧ Hid (∀ j i, i < j → j < k → clashB (l.getD j []) (l.getD i []) = false) ∧ Hid (Below w.heap.size w W)) (fun t9 _ => l.length - (intOf t9).toNat)
  case atStart => exact ⟨0, by omega, rfl, Lib.hid (fun j i h1 h2 => by omega), Lib.hid (Below.refl _ _)⟩
  case round =>
    obtain ⟨k, hk, rfl, HN, HB⟩ := hrel
    have hbel := HB.out
    have i0 : (0 : Int) ≤ k := by omega
    by_cases hlt' : k < l.length
    · have hrw := hr.below hbel
      obtain ⟨ad, rfl, cS⟩ := hrw.str_at hlt'
      have i1 : (k : Int) < l.length := by omega
      have i2 : (k : Int) ≤ c := by omega
      have hg : l.getD k [] = l[k] := by simp [List.getD, hlt']
      have hm := List.getElem_mem hlt'
      have hba : Below wr.heap.size wr (wr.alloc (.cells #[.string ⟨(l[k]).toArray⟩] 9)) := (Below.refl _ _).alloc (Nat.le_refl _) _
      have htk := (hrw.take (k := k) (by omega)).below hba
      rw [Nat.mul_one, strs_take] at htk
      have hlen : (l.take k).length = k := by simp; omega
      have hI := IndexFunc_any l[k] (l.take k) (some ad) c wr.heap.size _ (by rw [hlen]; exact htk) (by omega) (HLN.out _ hm) (fun x hx => HLN.out x (List.mem_of_mem_take hx)) (by rw [cell_new0])
      rw [hlen] at hI
      generalize l[k] = q at *
      have HI := Lib.hid hI
      have HG := Lib.hid hg
      have HLEN := Lib.hid hlen
      have HBA := Lib.hid hba
      clear hbel hg hm hI htk hrw hlen hba
      go_wp2_with (fail)
      refine HI.out.mono ?_
      rintro e w1 ⟨i, rfl, hi, hw1⟩
      have hb1 := HB.out.trans ((HBA.out.trans (hw1.mono HBA.out.size)).mono HB.out.size)
      have HB1 := Lib.hid hb1
      clear hw1 hb1
      rcases hi with ⟨i', rfl, hi', hcl⟩ | ⟨rfl, hno⟩
      · have HCL := Lib.hid hcl
        have hi2 : i' < k := by rw [HLEN.out] at hi'; exact hi'
        clear hcl hi'
        go_wp2_with (fail)
        go_ret2
        refine ⟨i', k, rfl, .inl ⟨i', k, rfl, rfl, hi2, hlt', ?_⟩, HB1.out⟩
        have h := HCL.out
        rw [HG.out]
        rw [show (l.take k).getD i' [] = l.getD i' [] by simp [List.getD, List.getElem?_take, hi2]] at h
        exact h
      · have HNO := Lib.hid hno
        clear hno
        go_wp2_with (fail)
        go_roundw
        case rel => exact ⟨k + 1, by omega, by go_num, Lib.hid (fun j i h1 h2 => by
          by_cases e : j = k
          · have h := HNO.out i (by rw [HLEN.out]; omega)
            rw [show (l.take k).getD i [] = l.getD i [] by simp [List.getD, List.getElem?_take, show i < k by omega]] at h
            rw [e, HG.out]; exact h
          · exact HN.out j i h1 (by omega)), HB1⟩
        case measure => simp [intOf]; omega
    · obtain rfl : k = l.length := by omega
      clear hbel
      go_wp2_with (fail)
      go_ret2
      exact ⟨-1, -1, rfl, .inr ⟨rfl, rfl, fun j i h1 h2 => HN.out j i h1 h2⟩, HB.out⟩
end Go.Proofs.YtpfpjinkifggdaaDoor
