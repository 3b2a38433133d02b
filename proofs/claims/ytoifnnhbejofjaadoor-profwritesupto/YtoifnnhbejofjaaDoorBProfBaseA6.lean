/- Texts joined: Prof2, Valid, Glob1, Glob2. -/
import Derived.Test.YtoifnnhbejofjaaDoorBProfBaseA5
import Derived.Test.YtoifnnhbejofjaaDoorBProfBaseA1
import Derived.Test.YtoifnnhbejofjaaDoorShelf
import Derived.Shelf.Unicode.ValidAny
import Derived.Lib.LaidU8T
import Derived.Test.YtoifnnhbejofjaaDoorBProfBaseA3
import Derived.IntWalk
import Derived.Lib.OthersKept
import Derived.WalkSmall
import Derived.BigCall
set_option linter.unusedSimpArgs false
set_option linter.unusedVariables false

/- prof: the first text of a name; a name among those that are being read; may a text be read now? -/
section
set_option linter.unusedVariables false
namespace Go.Proofs.YtoifnnhbejofjaaDoor
open Go.RowKit Plain

namespace Plain
def findI (T : List Txt) (n : List UInt8) : Int := match findT T n with
  | some k => (k : Int)
  | none => -1
theorem findT_hit {T : List Txt} {n : List UInt8} {i : Nat} (h : i < T.length) (hn : ∀ j, j < i → ((T.getD j ⟨[], []⟩).name == n) = false) (hx : ((T.getD i ⟨[], []⟩).name == n) = true) : findT T n = some i := by
  unfold findT
  rw [List.findIdx?_eq_some_iff_getElem]
  refine ⟨h, by simpa [List.getD_eq_getElem?_getD, h] using hx, fun j hj => ?_⟩
  have := hn j hj
  rw [List.getD_eq_getElem?_getD, List.getElem?_eq_getElem (by omega), Option.getD_some] at this
  simpa using this
theorem findT_no {T : List Txt} {n : List UInt8} (hn : ∀ j, j < T.length → ((T.getD j ⟨[], []⟩).name == n) = false) : findT T n = none := by
  unfold findT
  rw [List.findIdx?_eq_none_iff]
  intro x hx
  obtain ⟨j, hj, rfl⟩ := List.getElem_of_mem hx
  have := hn j hj
  rw [List.getD_eq_getElem?_getD, List.getElem?_eq_getElem hj, Option.getD_some] at this
  exact this
theorem findT_lt {T : List Txt} {n : List UInt8} {i : Nat} (h : findT T n = some i) : i < T.length := by
  unfold findT at h
  rw [List.findIdx?_eq_some_iff_getElem] at h
  exact h.1
end Plain

theorem txt_cells {w : World} {A : Option Addr} {T : List Txt} (h : IsRows w 2 A (T.map txtV)) {i : Nat} (hi : i < T.length) :
    ∃ ad, A = some ad ∧ w.cell? (ad.add (i * 2)) = some (.string ⟨(T.getD i ⟨[], []⟩).name.toArray⟩) ∧ w.cell? ⟨(ad.add (i * 2)).block, (ad.add (i * 2)).off + 1, none⟩ = some (.string ⟨(T.getD i ⟨[], []⟩).text.toArray⟩) := by
  obtain ⟨ad, hA, h0, h1⟩ := IsRows.at_ h (k := i) (by simpa using hi)
  rw [List.getD_eq_getElem?_getD, List.getElem?_eq_getElem hi, Option.getD_some]
  exact ⟨ad, hA, h0 _ (by simp [txtV]), h1 0 _ (by simp [txtV])⟩

theorem find1_any (x : Txt) (n : List UInt8) (q : Nat) (w : World) (hq : w.cell? ⟨q, 0, none⟩ = some (.string ⟨n.toArray⟩)) :
    Calls Tryd.prog 29 #[.agg #[.string ⟨x.name.toArray⟩, .string ⟨x.text.toArray⟩], .pointer (some ⟨q, 0, none⟩)] w (Ret w (.bool (x.name == n))) := by
  obtain ⟨a, t⟩ := x
  have hlt := World.block_lt_of_cell? _ _ hq
  have hqa : ∀ o, (w.alloc o).cell? ⟨q, 0, none⟩ = some (.string ⟨n.toArray⟩) := fun o => (((Below.refl w.heap.size w).alloc (Nat.le_refl _) o).cell (p := ⟨q, 0, none⟩) hlt).trans hq
  simp only
  generalize hb : (a == n) = b
  clear hq
  go_enter Tryd.func29, Tryd.ntmps29
  go_wp2_with (fail)
  go_ret
  exact ⟨rfl, (Below.refl _ _).alloc (Nat.le_refl _) _⟩

set_option maxHeartbeats 1000000 in
set_option maxRecDepth 100000 in
theorem indexTxt_any (T : List Txt) (A : Option Addr) (c : Nat) (n : List UInt8) (q : Nat) (w : World) (hR : IsRows w 2 A (T.map txtV)) (hl : T.length ≤ 9223372036854775807) (hq : w.cell? ⟨q, 0, none⟩ = some (.string ⟨n.toArray⟩)) :
    Calls Tryd.prog 28 #[.slice A T.length c, .func (.func 29) #[] #[.pointer (some ⟨q, 0, none⟩)]] w (Ret w (.int .i64 (findI T n))) := by
  have hlt := World.block_lt_of_cell? _ _ hq
  have HR := Lib.hid (fun W (h : Below w.heap.size w W) => hR.below h)
  have HQ := Lib.hid (fun W (h : Below w.heap.size w W) => (h.cell (p := ⟨q, 0, none⟩) hlt).trans hq)
  obtain ⟨r, hr⟩ : ∃ r, findI T n = r := ⟨_, rfl⟩
  have HRES := Lib.hid hr
  rw [hr]
  clear hR hr hq
  go_enter Tryd.func28, Tryd.ntmps28
  go_wp2_with (fail)
  go_loopw [8] (fun t8 W => ∃ (i : Nat), i ≤ T.length ∧ t8 = .int .i64 i ∧ Hid (∀ j, j < i → ((T.getD j ⟨[], []⟩).name == n) = false) ∧ Hid (Below w.heap.size w W)) (fun t8 _ => T.length - (intOf t8).toNat)
  case atStart => exact ⟨0, by omega, rfl, Lib.hid (fun j h => by omega), Lib.hid (Below.refl _ _)⟩
  case round =>
    obtain ⟨i, hi, rfl, HE, HW⟩ := hrel
    have i0 : (0 : Int) ≤ i := by omega
    by_cases hlt2 : i < T.length
    · have i1 : (i : Int) < T.length := by omega
      have e1 : IntKind.i64.wrap ((i : Int) + 1) = (i : Int) + 1 := IntWalk.i64_in _ (by omega)
      obtain ⟨ad, rfl, c0, c1⟩ := txt_cells (HR.out _ HW.out) hlt2
      have hht := @findT_hit T n i hlt2
      have HEX := HE.out
      have hnx : ((T.getD i ⟨[], []⟩).name == n) = false → ∀ j, j < i + 1 → ((T.getD j ⟨[], []⟩).name == n) = false := fun h j hj => by
        by_cases e : j = i
        · rw [e]; exact h
        · exact HEX j (by omega)
      generalize T.getD i ⟨[], []⟩ = x at *
      have HC := Lib.hid (find1_any x n q wr (HQ.out _ HW.out))
      have HHT := Lib.hid hht
      have HNX := Lib.hid hnx
      clear hht hnx HEX
      cases hb : (x.name == n) with
      | true =>
        rw [hb] at HC
        have HF := Lib.hid (show r = (i : Int) by rw [← HRES.out]; unfold findI; rw [HHT.out HE.out hb])
        clear hb HHT HNX
        go_wp2_with (go_at_call 29; refine HC.out.mono ?_; rintro e w1 ⟨rfl, hw1⟩)
        go_ret
        exact ⟨by rw [HF.out]; rfl, HW.out.trans (hw1.mono HW.out.size)⟩
      | false =>
        rw [hb] at HC
        have HE2 := Lib.hid (HNX.out hb)
        clear hb HHT HNX
        go_wp2_with (go_at_call 29; refine HC.out.mono ?_; rintro e w1 ⟨rfl, hw1⟩)
        go_roundw
        case rel => exact ⟨i + 1, by omega, by go_num, HE2, Lib.hid (HW.out.trans (hw1.mono HW.out.size))⟩
        case measure => simp [intOf]; omega
    · obtain rfl : i = T.length := by omega
      have i1 : decide ((T.length : Int) < (T.length : Int)) = false := by rw [decide_eq_false_iff_not]; omega
      have HF := Lib.hid (show r = -1 by rw [← HRES.out]; unfold findI; rw [findT_no HE.out])
      go_wp2_with (fail)
      go_ret
      exact ⟨by rw [HF.out]; rfl, HW.out⟩

set_option maxHeartbeats 1000000 in
set_option maxRecDepth 100000 in
theorem find_any (T : List Txt) (A : Option Addr) (c b : Nat) (n : List UInt8) (w : World) (hR : IsRows w 2 A (T.map txtV)) (hl : T.length ≤ 9223372036854775807) (hb : w.cell? ⟨b, 1, none⟩ = some (.slice A T.length c)) :
    Calls Tryd.prog 12 #[.pointer (some ⟨b, 0, none⟩), .string ⟨n.toArray⟩] w (Ret w (.int .i64 (findI T n))) := by
  have hlt := World.block_lt_of_cell? _ _ hb
  obtain ⟨w1, hw1⟩ : ∃ w1, w.alloc (.cells #[.string ⟨n.toArray⟩] 9) = w1 := ⟨_, rfl⟩
  have HW1 := Lib.hid hw1
  have hB1 : Below w.heap.size w w1 := by rw [← hw1]; exact (Below.refl w.heap.size w).alloc (Nat.le_refl _) _
  have hq : w1.cell? ⟨w.heap.size, 0, none⟩ = some (.string ⟨n.toArray⟩) := by rw [← hw1]; exact cell_of_row _ _ 0 _ _ _ (heap_alloc_new w _)
  have hb1 := (hB1.cell (p := ⟨b, 1, none⟩) hlt).trans hb
  have HC := Lib.hid (indexTxt_any T A c n w.heap.size w1 (hR.below hB1) hl hq)
  have HB1 := Lib.hid hB1
  clear hw1 hB1 hq hR hb
  go_enter Tryd.func12, Tryd.ntmps12
  go_upto_region 1 with (fail)
  rw [HW1.out]
  go_wp2_with (go_at_call 28; refine HC.out.mono ?_; rintro e w2 ⟨rfl, hw2⟩)
  go_ret
  exact ⟨rfl, HB1.out.trans (hw2.mono HB1.out.size)⟩

namespace Plain
def idxL (l : List (List UInt8)) (n : List UInt8) : Int := match l.findIdx? (fun x => x == n) with
  | some k => (k : Int)
  | none => -1
theorem idxL_has (l : List (List UInt8)) (n : List UInt8) : decide (0 ≤ idxL l n) = l.contains n := by
  unfold idxL
  cases h : l.findIdx? (fun x => x == n) with
  | none =>
    rw [List.findIdx?_eq_none_iff] at h
    have : l.contains n = false := by
      rw [← Bool.not_eq_true, List.contains_iff_mem]
      intro hm
      have := h n hm
      simp at this
    rw [this]; rfl
  | some k =>
    rw [List.findIdx?_eq_some_iff_getElem] at h
    obtain ⟨hk, hx, _⟩ := h
    have hx' : l[k] = n := by simpa using hx
    have : l.contains n = true := by rw [List.contains_iff_mem, ← hx']; exact List.getElem_mem hk
    rw [this]; simp
end Plain
set_option maxHeartbeats 1000000 in
set_option maxRecDepth 100000 in
theorem idxL_any (l : List (List UInt8)) (B : Option Addr) (c : Nat) (n : List UInt8) (w : World) (hR : Reads w 1 B l.length (strs l)) (hl : l.length ≤ 4294967296) :
    Calls Tryd.prog 92 #[.slice B l.length c, .string ⟨n.toArray⟩] w (Ret w (.int .i64 (idxL l n))) := by
  have HR := Lib.hid (fun W (h : Below w.heap.size w W) => hR.below h)
  obtain ⟨r, hr⟩ : ∃ r, idxL l n = r := ⟨_, rfl⟩
  have HRES := Lib.hid hr
  rw [hr]
  clear hR hr
  go_enter Tryd.func92, Tryd.ntmps92
  go_wp2_with (fail)
  go_loopw [8] (fun t8 W => ∃ (i : Nat), i ≤ l.length ∧ t8 = .int .i64 i ∧ Hid (∀ j, ∀ h : j < l.length, j < i → (l[j] == n) = false) ∧ Hid (Below w.heap.size w W)) (fun t8 _ => l.length - (intOf t8).toNat)
  case atStart => exact ⟨0, by omega, rfl, Lib.hid (fun j _ h => by omega), Lib.hid (Below.refl _ _)⟩
  case round =>
    obtain ⟨i, hi, rfl, HE, HW⟩ := hrel
    have i0 : (0 : Int) ≤ i := by omega
    by_cases hlt2 : i < l.length
    · have i1 : (i : Int) < l.length := by omega
      have e1 : IntKind.i64.wrap ((i : Int) + 1) = (i : Int) + 1 := IntWalk.i64_in _ (by omega)
      obtain ⟨ad, rfl, c0⟩ := (HR.out _ HW.out).str_at hlt2
      have hht : (l[i] == n) = true → idxL l n = (i : Int) := fun h => by
        unfold idxL
        rw [show l.findIdx? (fun x => x == n) = some i by
          rw [List.findIdx?_eq_some_iff_getElem]
          exact ⟨hlt2, h, fun j hj => by rw [HE.out j (by omega) hj]; decide⟩]
      have hnx : (l[i] == n) = false → ∀ j, ∀ h : j < l.length, j < i + 1 → (l[j] == n) = false := fun h j hj hj2 => by
        by_cases e : j = i
        · subst e; exact h
        · exact HE.out j hj (by omega)
      generalize l[i] = x at *
      have HHT := Lib.hid hht
      have HNX := Lib.hid hnx
      have hsym : (n == x) = (x == n) := Bool.beq_comm
      clear hht hnx
      cases hb : (x == n) with
      | true =>
        rw [hb] at hsym
        have HF := Lib.hid (show r = (i : Int) by rw [← HRES.out]; exact HHT.out hb)
        clear hb HHT HNX
        go_wp2_with (fail)
        go_ret
        exact ⟨by rw [HF.out]; rfl, HW.out⟩
      | false =>
        rw [hb] at hsym
        have HE2 := Lib.hid (HNX.out hb)
        clear hb HHT HNX
        go_wp2_with (fail)
        go_roundw
        case rel => exact ⟨i + 1, by omega, by go_num, HE2, HW⟩
        case measure => simp [intOf]; omega
    · obtain rfl : i = l.length := by omega
      have i1 : decide ((l.length : Int) < (l.length : Int)) = false := by rw [decide_eq_false_iff_not]; omega
      have HF := Lib.hid (show r = -1 by
        rw [← HRES.out]; unfold idxL
        rw [show l.findIdx? (fun x => x == n) = none by
          rw [List.findIdx?_eq_none_iff]
          intro x hx
          obtain ⟨j, hj, rfl⟩ := List.getElem_of_mem hx
          exact HE.out j hj hj])
      go_wp2_with (fail)
      go_ret
      exact ⟨by rw [HF.out]; rfl, HW.out⟩
set_option maxHeartbeats 1000000 in
theorem has_any (l : List (List UInt8)) (B : Option Addr) (c : Nat) (n : List UInt8) (w : World) (hR : Reads w 1 B l.length (strs l)) (hl : l.length ≤ 4294967296) :
    Calls Tryd.prog 51 #[.slice B l.length c, .string ⟨n.toArray⟩] w (Ret w (.bool (l.contains n))) := by
  have HI := Lib.hid (idxL_any l B c n w hR hl)
  rw [← idxL_has]
  generalize idxL l n = r at *
  have HC : Hid (Calls Tryd.prog 74 #[.slice B l.length c, .string ⟨n.toArray⟩] w (Ret w (.bool (decide (0 ≤ r))))) := by
    refine Lib.hid ?_
    clear hR
    go_enter Tryd.func74, Tryd.ntmps74
    go_wp2_with (go_at_call 92; refine HI.out.mono ?_; rintro e w1 ⟨rfl, hw1⟩)
    go_ret
    exact ⟨rfl, hw1⟩
  clear hR HI
  go_enter Tryd.func51, Tryd.ntmps51
  go_wp2_with (go_at_call 74; refine HC.out.mono ?_; rintro e w1 ⟨rfl, hw1⟩)
  go_ret
  exact ⟨rfl, hw1⟩

set_option maxHeartbeats 1000000 in
set_option maxRecDepth 100000 in
theorem include_any (T : List Txt) (A : Option Addr) (c b : Nat) (inside : List (List UInt8)) (B : Option Addr) (d : Nat) (n : List UInt8) (w : World) (hR : IsRows w 2 A (T.map txtV)) (hl : T.length ≤ 9223372036854775807) (hb : w.cell? ⟨b, 1, none⟩ = some (.slice A T.length c))
    (hc : w.cell? ⟨b, 0, none⟩ = some (.slice B inside.length d)) (hi : Reads w 1 B inside.length (strs inside)) (hil : inside.length ≤ 4294967296) :
    Calls Tryd.prog 34 #[.pointer (some ⟨b, 0, none⟩), .string ⟨n.toArray⟩] w (Ret w (.int .i64 (incN T inside n))) := by
  have hlt := World.block_lt_of_cell? _ _ hb
  have HF := Lib.hid (find_any T A c b n w hR hl hb)
  have HC := Lib.hid (fun W (h : Below w.heap.size w W) => (h.cell (p := ⟨b, 0, none⟩) hlt).trans hc)
  have HH := Lib.hid (fun W (h : Below w.heap.size w W) => has_any inside B d n W (hi.below h) hil)
  unfold incN
  unfold findI at HF
  clear hR hb hc hi
  cases hf : findT T n with
  | none =>
    rw [hf] at HF
    simp only at HF ⊢
    clear hf HC HH
    go_enter Tryd.func34, Tryd.ntmps34
    go_wp2_with (go_at_call 12; refine HF.out.mono ?_; rintro e w1 ⟨rfl, hw1⟩)
    go_ret
    exact ⟨rfl, hw1⟩
  | some k =>
    rw [hf] at HF
    simp only at HF ⊢
    have k0 : decide ((k : Int) < 0) = false := by rw [decide_eq_false_iff_not]; omega
    clear hf
    cases hb : inside.contains n with
    | true =>
      rw [hb] at HH
      rw [if_pos rfl]
      clear hb
      go_enter Tryd.func34, Tryd.ntmps34
      go_wp2_with (fail)
      refine HF.out.mono ?_
      rintro e w1 ⟨rfl, hw1⟩
      have hc1 := HC.out _ hw1
      have HB1 := Lib.hid hw1
      clear hw1
      go_wp2_with (fail)
      refine (HH.out _ HB1.out).mono ?_
      rintro e w2 ⟨rfl, hw2⟩
      go_wp2_with (fail)
      go_ret
      exact ⟨rfl, HB1.out.trans (hw2.mono HB1.out.size)⟩
    | false =>
      rw [hb] at HH
      rw [if_neg (by decide)]
      clear hb
      by_cases h8 : 8 ≤ inside.length
      · rw [if_pos h8]
        have g8 : decide ((8 : Int) ≤ (inside.length : Int)) = true := by rw [decide_eq_true_eq]; omega
        have g9 : decide (8 ≤ inside.length) = true := by rw [decide_eq_true_eq]; exact h8
        clear h8
        go_enter Tryd.func34, Tryd.ntmps34
        go_wp2_with (fail)
        refine HF.out.mono ?_
        rintro e w1 ⟨rfl, hw1⟩
        have hc1 := HC.out _ hw1
        have HB1 := Lib.hid hw1
        clear hw1
        go_wp2_with (fail)
        refine (HH.out _ HB1.out).mono ?_
        rintro e w2 ⟨rfl, hw2⟩
        have hc2 := HC.out _ (HB1.out.trans (hw2.mono HB1.out.size))
        go_wp2_with (fail)
        go_ret
        exact ⟨rfl, HB1.out.trans (hw2.mono HB1.out.size)⟩
      · rw [if_neg h8]
        have g8 : decide ((8 : Int) ≤ (inside.length : Int)) = false := by rw [decide_eq_false_iff_not]; omega
        have g9 : decide (8 ≤ inside.length) = false := by rw [decide_eq_false_iff_not]; exact h8
        clear h8
        go_enter Tryd.func34, Tryd.ntmps34
        go_wp2_with (fail)
        refine HF.out.mono ?_
        rintro e w1 ⟨rfl, hw1⟩
        have hc1 := HC.out _ hw1
        have HB1 := Lib.hid hw1
        clear hw1
        go_wp2_with (fail)
        refine (HH.out _ HB1.out).mono ?_
        rintro e w2 ⟨rfl, hw2⟩
        have hc2 := HC.out _ (HB1.out.trans (hw2.mono HB1.out.size))
        go_wp2_with (fail)
        go_ret
        exact ⟨rfl, HB1.out.trans (hw2.mono HB1.out.size)⟩
end Go.Proofs.YtoifnnhbejofjaaDoor
end

/- The library's check of UTF-8, laid at this program. -/
section
namespace Go.Proofs.YtoifnnhbejofjaaDoor
open Go.RowKit


/-- The two tables lie where they lie. -/
def Tabs (w : World) : Prop := Lib.Utf8Tabs 2 3 w

end Go.Proofs.YtoifnnhbejofjaaDoor
end

/- glob.invalid, glob.set. -/
section
namespace Go.Proofs.YtoifnnhbejofjaaDoor
open Go.RowKit Plain

theorem decodeGo_L {l : List UInt8} (hne : l ≠ []) : Lib.decodeGo ⟨l.toArray⟩ = Lib.decodeL l := by
  unfold Lib.decodeGo
  rw [if_neg (by simpa [ByteArray.size] using hne)]
  rfl
theorem Decode_any (l : List UInt8) (hne : l ≠ []) (w : World) (hT : Tabs w) :
    Calls Tryd.prog 76 #[.string ⟨l.toArray⟩] w (Ret w (.tuple #[.int .i32 (Lib.decodeL l).1, .int .i64 (Lib.decodeL l).2])) := by
  have h := Tryd.utf8_DecodeRuneInString ⟨l.toArray⟩ w hT
  rw [decodeGo_L hne] at h
  exact h.mono fun _ _ ⟨he, hw⟩ => ⟨he, hw⟩

set_option maxHeartbeats 1000000 in
theorem invalid_any (s : List UInt8) (w : World) (hT : Tabs w) (hs : s.length ≤ 4294967280) :
    Calls Tryd.prog 56 #[.string ⟨s.toArray⟩] w (Ret w (.int .i64 (badI (badP s)))) := by
  have HD := Lib.hid (fun (l : List UInt8) (hne : l ≠ []) W (hb : Below w.heap.size w W) => Decode_any l hne W (Utf8Tabs_below hT hb))
  clear hT
  have hsz : (ByteArray.mk s.toArray).size = s.length := by simp [ByteArray.size]
  go_enter Tryd.func56, Tryd.ntmps56
  go_wp2_with (fail)
  go_loopw [] (fun wr => ∃ pos : Nat, pos ≤ s.length ∧ wr.heap[w.heap.size]? = some (.stringIter ⟨s.toArray⟩ pos) ∧ Hid (badP s = badAt pos (s.drop pos)) ∧ Hid (Below w.heap.size w wr)) (fun wr => s.length - wr.iterPos w.heap.size)
  case atStart => exact ⟨0, by omega, by simpa using World.iter_heap w ⟨s.toArray⟩ 0, Lib.hid (by rw [List.drop_zero]; rfl), Lib.hid ((Below.refl _ w).alloc (Nat.le_refl _) _)⟩
  case round =>
    obtain ⟨pos, hp, hit, HE, HB⟩ := hrel
    have hlt := (Array.getElem?_eq_some_iff.1 hit).1
    by_cases hlp : pos < s.length
    · have hne : s.drop pos ≠ [] := by intro e; have := congrArg List.length e; simp at this; omega
      have hst := badAt_step (k := pos) hne
      have hwle := runeW_le s pos hlp
      have hd := dec_at s pos
      have hdd := HD.out _ hne
      have hw1 : 1 ≤ (Lib.decodeL (s.drop pos)).2 := Lib.decodeL_width _
      have hwl : (Lib.decodeL (s.drop pos)).2 ≤ s.length - pos := by have := Lib.decodeL_le _ hne; simpa using this
      have hr : runeW (s.drop pos) = if (Lib.decodeL (s.drop pos)).1 = 65533 ∧ (Lib.decodeL (s.drop pos)).2 = 1 then 0 else (Lib.decodeL (s.drop pos)).2 := rfl
      have hnx : ∀ ty, (Instr.next (.pointer (some ⟨w.heap.size, 0, none⟩)) true ty).run Tryd.prog wr = _ := fun ty => Lib.run_next_any_at wr w.heap.size ⟨s.toArray⟩ pos ty hit (by rw [hsz]; exact hlp)
      rw [hd] at hnx
      generalize (Lib.decodeL (s.drop pos)).1 = v at *
      generalize (Lib.decodeL (s.drop pos)).2 = k at *
      have HST := Lib.hid hst
      have HR := Lib.hid hr
      have hit2 := Lib.iterAt_heap wr w.heap.size ⟨s.toArray⟩ pos (pos + k) hit
      have hb2 := Lib.below_iterAt HB.out (k := w.heap.size) (Nat.le_refl _) ⟨s.toArray⟩ (pos + k)
      have HB2 := Lib.hid hb2
      have HDD := Lib.hid hdd
      have HIT := Lib.hid (iterPos_of hit)
      have hi0 : (0 : Int) ≤ pos := by omega
      clear hst hr hb2 hdd hd HD
      by_cases h1 : v = 65533
      · have hv : ((v : Int) == 65533) = true := by simp; omega
        by_cases h2 : k = 1
        · have hk : ((k : Int) == 1) = true := by simp; omega
          have HZ := Lib.hid (show runeW (s.drop pos) = 0 by rw [HR.out, if_pos ⟨h1, h2⟩])
          clear h1 h2
          generalize wr.iterAt w.heap.size ⟨s.toArray⟩ (pos + k) = W2 at *
          go_wp2_with (fail)
          refine (HDD.out _ HB2.out).mono ?_
          rintro e w1 ⟨rfl, hw1⟩
          go_wp2_with (fail)
          go_ret
          exact ⟨by rw [HE.out, HST.out, if_pos HZ.out]; rfl, HB2.out.trans (hw1.mono HB2.out.size)⟩
        · have hk : ((k : Int) == 1) = false := by simp; omega
          have HZ := Lib.hid (show runeW (s.drop pos) = k by rw [HR.out, if_neg (fun c => h2 c.2)])
          clear h1 h2
          generalize hW2 : wr.iterAt w.heap.size ⟨s.toArray⟩ (pos + k) = W2 at *
          clear hW2
          go_wp2_with (fail)
          refine (HDD.out _ HB2.out).mono ?_
          rintro e w1 ⟨rfl, hw1⟩
          have hb3 := HB2.out.trans (hw1.mono HB2.out.size)
          have hit3 : w1.heap[w.heap.size]? = some (.stringIter ⟨s.toArray⟩ (pos + k)) := (hw1.block _ (Array.getElem?_eq_some_iff.1 hit2).1).trans hit2
          have HB3 := Lib.hid hb3
          clear hw1 hb3
          go_wp2_with (fail)
          go_roundw
          case rel => exact ⟨pos + k, by omega, hit3, Lib.hid (by rw [HE.out, HST.out, HZ.out, if_neg (by omega), List.drop_drop]), HB3⟩
          case measure => rw [iterPos_of hit3, HIT.out]; omega
      · have hv : ((v : Int) == 65533) = false := by simp; omega
        have HZ := Lib.hid (show runeW (s.drop pos) = k by rw [HR.out, if_neg (fun c => h1 c.1)])
        clear h1
        generalize hW2 : wr.iterAt w.heap.size ⟨s.toArray⟩ (pos + k) = W2 at *
        clear hW2
        go_wp2_with (fail)
        go_roundw
        case rel => exact ⟨pos + k, by omega, hit2, Lib.hid (by rw [HE.out, HST.out, HZ.out, if_neg (by omega), List.drop_drop]), HB2⟩
        case measure => rw [iterPos_of hit2, HIT.out]; omega
    · have hnx : ∀ ty, (Instr.next (.pointer (some ⟨w.heap.size, 0, none⟩)) true ty).run Tryd.prog wr = _ := fun ty => Lib.run_next_end_at wr w.heap.size ⟨s.toArray⟩ pos ty hit (by rw [hsz]; exact hlp)
      have HZ := Lib.hid (show badP s = none by rw [HE.out, List.drop_eq_nil_of_le (by omega)]; rfl)
      go_wp2_with (fail)
      go_ret
      exact ⟨by rw [HZ.out]; rfl, HB.out⟩

/-- What set gives. -/
def SetOut (s : List UInt8) (w : World) (e : Ending) (w' : World) : Prop :=
  (∀ k, closeP s = some k → e = .returned (.tuple #[.string ⟨((s.take k).drop 1).toArray⟩, .string ⟨(s.drop (k + 1)).toArray⟩, .bool true])) ∧ (closeP s = none → ∃ a b : ByteArray, e = .returned (.tuple #[.string a, .string b, .bool false])) ∧ Below w.heap.size w w'

def strLenG : Value → Nat
  | .string x => x.size
  | _ => 0

theorem u8_ne {c : UInt8} {n : Nat} (hn : n < 256) (h : c ≠ UInt8.ofNat n) : ((c.toNat : Int) == (n : Int)) = false := by
  rw [beq_eq_false_iff_ne]
  intro e
  apply h
  apply UInt8.toNat.inj
  have : c.toNat = n := by omega
  rw [this]; simp; omega

set_option maxHeartbeats 2000000 in
set_option maxRecDepth 10000 in
theorem set_any (r : List UInt8) (w : World) (hs : (91 :: r).length ≤ 4294967280) :
    Calls Tryd.prog 57 #[.string ⟨(91 :: r : List UInt8).toArray⟩] w (SetOut (91 :: r) w) := by
  have hpre := Tryd.strings_HasPrefix ⟨r.toArray⟩ ⟨[(33 : UInt8)].toArray⟩
  obtain ⟨f, hf, hf12, hfl⟩ : ∃ f, setFrom (91 :: r) = f ∧ ((f = 1 ∧ [(33 : UInt8)].isPrefixOf r = false) ∨ (f = 2 ∧ [(33 : UInt8)].isPrefixOf r = true)) ∧ f ≤ (91 :: r).length := by
    cases r with
    | nil => exact ⟨1, rfl, .inl ⟨rfl, rfl⟩, by simp⟩
    | cons c r =>
      by_cases h : c = 33
      · subst h; exact ⟨2, setFrom_2 rfl, .inr ⟨rfl, by simp⟩, by simp⟩
      · have hpf : [(33 : UInt8)].isPrefixOf (c :: r) = false := by
          rw [← Bool.not_eq_true, List.isPrefixOf_iff_prefix]
          intro e; obtain ⟨t, e⟩ := e; injection e with e _; exact h e.symm
        exact ⟨1, setFrom_1 (by simpa using h), .inl ⟨rfl, hpf⟩, by simp⟩
  have hd1 : (91 :: r : List UInt8).drop 1 = r := rfl
  have hl1 : 1 ≤ (91 :: r : List UInt8).length := by simp
  have hcl := closeA_closeP (91 :: r)
  rw [hf] at hcl
  generalize hss : (91 :: r : List UInt8) = s at *
  have hpre2 : ∀ w, Calls Tryd.prog 77 #[.string ⟨r.toArray⟩, .string ⟨#[33]⟩] w (Ret w (.bool ([(33 : UInt8)].isPrefixOf r))) := fun w => (hpre w).mono fun _ _ ⟨he, hw⟩ => ⟨he, hw ▸ Below.refl _ _⟩
  have HCL := Lib.hid hcl
  have HF := Lib.hid hf
  have HSS := Lib.hid hss
  have hdt : r.take (s.length - 1) = r := by have := HSS.out; subst this; simp
  clear hpre hcl hss
  rcases hf12 with ⟨rfl, hb⟩ | ⟨rfl, hb⟩
  · rw [hb] at hpre2
    have HP := Lib.hid hpre2
    clear hpre2 hb hf
    have HFF := Lib.hid (show setFrom s = 1 from HF.out)
    go_enter Tryd.func57, Tryd.ntmps57
    go_wp2_with (fail)
    refine (HP.out _).mono ?_
    rintro e w1 ⟨rfl, hw1⟩
    have HB1 := Lib.hid hw1
    clear hw1 hdt hd1
    go_wp2_with (fail)
    go_loopw [6] (fun t6 W => ∃ i : Nat, i ≤ s.length ∧ t6 = .int .i64 i ∧ 1 ≤ i ∧ Hid (closeP s = closeA s i) ∧ Hid (Below w.heap.size w W)) (fun t6 _ => s.length - (intOf t6).toNat)
    case atStart => exact ⟨1, by omega, rfl, by omega, Lib.hid (by rw [← HCL.out]), HB1⟩
    case round =>
      obtain ⟨i, hi, rfl, hfi, HC, HB⟩ := hrel
      have hi0 : (0 : Int) ≤ i := by omega
      by_cases hlt : i < s.length
      · have hst := closeA_step hlt
        rw [HFF.out] at hst
        by_cases h92 : s[i] = 92
        · rw [if_neg (by rw [h92]; decide), if_pos h92] at hst
          have e1 : IntKind.i64.wrap ((i : Int) + 1) = (i : Int) + 1 := IntWalk.i64_in _ (by omega)
          have hx : ((i : Int) + 1).toNat = i + 1 := by omega
          by_cases hl1 : i + 1 < s.length
          · rw [dif_pos hl1] at hst
            have hq : ((i : Int) + 1 == (s.length : Int)) = false := by simp; omega
            have hq1 : (i : Int) + 1 < (s.length : Int) := by omega
            have hq0 : (0 : Int) ≤ (i : Int) + 1 := by omega
            by_cases h47 : s[i + 1] = 47
            · rw [if_pos h47] at hst
              have HN := Lib.hid (HC.out.trans hst)
              clear hst
              go_wp2_with (fail)
              go_ret3
              exact ⟨fun k hk => by (rw [HN.out] at hk; cases hk), fun _ => ⟨_, _, rfl⟩, HB.out⟩
            · rw [if_neg h47] at hst
              have HN := Lib.hid (HC.out.trans hst)
              clear hst
              generalize hd : s[i + 1] = d at *
              have h47' := u8_ne (n := 47) (by omega) h47
              clear h47
              go_wp2_with (fail)
              go_roundw
              case rel => exact ⟨i + 2, by omega, by go_num, by omega, HN, HB⟩
              case measure => simp [intOf]; omega
          · rw [dif_neg hl1] at hst
            have hq : ((i : Int) + 1 == (s.length : Int)) = true := by simp; omega
            have HN := Lib.hid (HC.out.trans hst)
            clear hst
            go_wp2_with (fail)
            go_ret3
            exact ⟨fun k hk => by (rw [HN.out] at hk; cases hk), fun _ => ⟨_, _, rfl⟩, HB.out⟩
        · rw [if_neg h92] at hst
          by_cases h47 : s[i] = 47
          · rw [if_pos h47] at hst
            have HN := Lib.hid (HC.out.trans hst)
            clear hst h92
            go_wp2_with (fail)
            go_ret3
            exact ⟨fun k hk => by (rw [HN.out] at hk; cases hk), fun _ => ⟨_, _, rfl⟩, HB.out⟩
          · rw [if_neg h47] at hst
            by_cases h93 : s[i] = 93
            · rw [if_pos h93] at hst
              by_cases hif : i = 1
              · rw [if_pos hif] at hst
                have HN := Lib.hid (HC.out.trans hst)
                have hq : decide ((1 : Int) < (i : Int)) = false := by simp; omega
                have HIF := Lib.hid hif
                clear hif
                clear hst h92 h47
                have e1 : IntKind.i64.wrap ((i : Int) + 1) = (i : Int) + 1 := IntWalk.i64_in _ (by omega)
                have hx : ((i : Int) + 1).toNat = i + 1 := by omega
                have hq1 : (i : Int) + 1 ≤ (s.length : Int) := by omega
                have hq0 : (0 : Int) ≤ (i : Int) + 1 := by omega
                go_wp2_with (fail)
                refine wp_region_below (by kernel_rfl) (by kernel_rfl) ?_
                repeat (go_big_quiet_step (fail))
                refine wpQuiet_nil ?_
                intro W2 hW2
                go_wp2_with (fail)
                go_ret3
                exact ⟨fun k hk => by (rw [HN.out] at hk; cases hk), fun _ => ⟨_, _, rfl⟩, HB.out.trans (hW2.mono HB.out.size)⟩
              · rw [if_neg hif] at hst
                have HN := Lib.hid (HC.out.trans hst)
                have hq : decide ((1 : Int) < (i : Int)) = true := by simp; omega
                clear hst h92 h47
                have e1 : IntKind.i64.wrap ((i : Int) + 1) = (i : Int) + 1 := IntWalk.i64_in _ (by omega)
                have hx : ((i : Int) + 1).toNat = i + 1 := by omega
                have hq1 : (i : Int) + 1 ≤ (s.length : Int) := by omega
                have hq0 : (0 : Int) ≤ (i : Int) + 1 := by omega
                have ht1 : (s.drop (i + 1)).take (s.length - (i + 1)) = s.drop (i + 1) := List.take_of_length_le (by simp)
                have HT2 := Lib.hid (show (s.drop 1).take (i - 1) = (s.take i).drop 1 by rw [List.drop_take])
                go_wp2_with (fail)
                refine wp_region_below (by kernel_rfl) (by kernel_rfl) ?_
                repeat (go_big_quiet_step (fail))
                refine wpQuiet_nil ?_
                intro W2 hW2
                go_wp2_with (fail)
                go_ret3
                refine ⟨fun k hk => ?_, fun hk => ?_, HB.out.trans (hW2.mono HB.out.size)⟩
                · rw [HN.out] at hk
                  injection hk with hk
                  subst hk
                  rw [← HT2.out, List.drop_one]
                  rfl
                · rw [HN.out] at hk; cases hk
            · rw [if_neg h93] at hst
              have HN := Lib.hid (HC.out.trans hst)
              clear hst
              generalize hc : s[i] = c at *
              have h92' := u8_ne (n := 92) (by omega) h92
              have h47' := u8_ne (n := 47) (by omega) h47
              have h93' := u8_ne (n := 93) (by omega) h93
              clear h92 h47 h93
              go_wp2_with (fail)
              go_roundw
              case rel => exact ⟨i + 1, by omega, by go_num, by omega, HN, HB⟩
              case measure => simp [intOf]; omega
      · have HN := Lib.hid (HC.out.trans (closeA_end (by omega)))
        go_wp2_with (fail)
        go_ret3
        exact ⟨fun k hk => by (rw [HN.out] at hk; cases hk), fun _ => ⟨_, _, rfl⟩, HB.out⟩
  · rw [hb] at hpre2
    have HP := Lib.hid hpre2
    clear hpre2 hb hf
    have HFF := Lib.hid (show setFrom s = 2 from HF.out)
    go_enter Tryd.func57, Tryd.ntmps57
    go_wp2_with (fail)
    refine (HP.out _).mono ?_
    rintro e w1 ⟨rfl, hw1⟩
    have HB1 := Lib.hid hw1
    clear hw1 hdt hd1
    go_wp2_with (fail)
    go_loopw [6] (fun t6 W => ∃ i : Nat, i ≤ s.length ∧ t6 = .int .i64 i ∧ 2 ≤ i ∧ Hid (closeP s = closeA s i) ∧ Hid (Below w.heap.size w W)) (fun t6 _ => s.length - (intOf t6).toNat)
    case atStart => exact ⟨2, by omega, rfl, by omega, Lib.hid (by rw [← HCL.out]), HB1⟩
    case round =>
      obtain ⟨i, hi, rfl, hfi, HC, HB⟩ := hrel
      have hi0 : (0 : Int) ≤ i := by omega
      by_cases hlt : i < s.length
      · have hst := closeA_step hlt
        rw [HFF.out] at hst
        by_cases h92 : s[i] = 92
        · rw [if_neg (by rw [h92]; decide), if_pos h92] at hst
          have e1 : IntKind.i64.wrap ((i : Int) + 1) = (i : Int) + 1 := IntWalk.i64_in _ (by omega)
          have hx : ((i : Int) + 1).toNat = i + 1 := by omega
          by_cases hl1 : i + 1 < s.length
          · rw [dif_pos hl1] at hst
            have hq : ((i : Int) + 1 == (s.length : Int)) = false := by simp; omega
            have hq1 : (i : Int) + 1 < (s.length : Int) := by omega
            have hq0 : (0 : Int) ≤ (i : Int) + 1 := by omega
            by_cases h47 : s[i + 1] = 47
            · rw [if_pos h47] at hst
              have HN := Lib.hid (HC.out.trans hst)
              clear hst
              go_wp2_with (fail)
              go_ret3
              exact ⟨fun k hk => by (rw [HN.out] at hk; cases hk), fun _ => ⟨_, _, rfl⟩, HB.out⟩
            · rw [if_neg h47] at hst
              have HN := Lib.hid (HC.out.trans hst)
              clear hst
              generalize hd : s[i + 1] = d at *
              have h47' := u8_ne (n := 47) (by omega) h47
              clear h47
              go_wp2_with (fail)
              go_roundw
              case rel => exact ⟨i + 2, by omega, by go_num, by omega, HN, HB⟩
              case measure => simp [intOf]; omega
          · rw [dif_neg hl1] at hst
            have hq : ((i : Int) + 1 == (s.length : Int)) = true := by simp; omega
            have HN := Lib.hid (HC.out.trans hst)
            clear hst
            go_wp2_with (fail)
            go_ret3
            exact ⟨fun k hk => by (rw [HN.out] at hk; cases hk), fun _ => ⟨_, _, rfl⟩, HB.out⟩
        · rw [if_neg h92] at hst
          by_cases h47 : s[i] = 47
          · rw [if_pos h47] at hst
            have HN := Lib.hid (HC.out.trans hst)
            clear hst h92
            go_wp2_with (fail)
            go_ret3
            exact ⟨fun k hk => by (rw [HN.out] at hk; cases hk), fun _ => ⟨_, _, rfl⟩, HB.out⟩
          · rw [if_neg h47] at hst
            by_cases h93 : s[i] = 93
            · rw [if_pos h93] at hst
              by_cases hif : i = 2
              · rw [if_pos hif] at hst
                have HN := Lib.hid (HC.out.trans hst)
                have hq : decide ((2 : Int) < (i : Int)) = false := by simp; omega
                have HIF := Lib.hid hif
                clear hif
                clear hst h92 h47
                have e1 : IntKind.i64.wrap ((i : Int) + 1) = (i : Int) + 1 := IntWalk.i64_in _ (by omega)
                have hx : ((i : Int) + 1).toNat = i + 1 := by omega
                have hq1 : (i : Int) + 1 ≤ (s.length : Int) := by omega
                have hq0 : (0 : Int) ≤ (i : Int) + 1 := by omega
                go_wp2_with (fail)
                refine wp_region_below (by kernel_rfl) (by kernel_rfl) ?_
                repeat (go_big_quiet_step (fail))
                refine wpQuiet_nil ?_
                intro W2 hW2
                go_wp2_with (fail)
                go_ret3
                exact ⟨fun k hk => by (rw [HN.out] at hk; cases hk), fun _ => ⟨_, _, rfl⟩, HB.out.trans (hW2.mono HB.out.size)⟩
              · rw [if_neg hif] at hst
                have HN := Lib.hid (HC.out.trans hst)
                have hq : decide ((2 : Int) < (i : Int)) = true := by simp; omega
                clear hst h92 h47
                have e1 : IntKind.i64.wrap ((i : Int) + 1) = (i : Int) + 1 := IntWalk.i64_in _ (by omega)
                have hx : ((i : Int) + 1).toNat = i + 1 := by omega
                have hq1 : (i : Int) + 1 ≤ (s.length : Int) := by omega
                have hq0 : (0 : Int) ≤ (i : Int) + 1 := by omega
                have ht1 : (s.drop (i + 1)).take (s.length - (i + 1)) = s.drop (i + 1) := List.take_of_length_le (by simp)
                have HT2 := Lib.hid (show (s.drop 1).take (i - 1) = (s.take i).drop 1 by rw [List.drop_take])
                go_wp2_with (fail)
                refine wp_region_below (by kernel_rfl) (by kernel_rfl) ?_
                repeat (go_big_quiet_step (fail))
                refine wpQuiet_nil ?_
                intro W2 hW2
                go_wp2_with (fail)
                go_ret3
                refine ⟨fun k hk => ?_, fun hk => ?_, HB.out.trans (hW2.mono HB.out.size)⟩
                · rw [HN.out] at hk
                  injection hk with hk
                  subst hk
                  rw [← HT2.out, List.drop_one]
                  rfl
                · rw [HN.out] at hk; cases hk
            · rw [if_neg h93] at hst
              have HN := Lib.hid (HC.out.trans hst)
              clear hst
              generalize hc : s[i] = c at *
              have h92' := u8_ne (n := 92) (by omega) h92
              have h47' := u8_ne (n := 47) (by omega) h47
              have h93' := u8_ne (n := 93) (by omega) h93
              clear h92 h47 h93
              go_wp2_with (fail)
              go_roundw
              case rel => exact ⟨i + 1, by omega, by go_num, by omega, HN, HB⟩
              case measure => simp [intOf]; omega
      · have HN := Lib.hid (HC.out.trans (closeA_end (by omega)))
        go_wp2_with (fail)
        go_ret3
        exact ⟨fun k hk => by (rw [HN.out] at hk; cases hk), fun _ => ⟨_, _, rfl⟩, HB.out⟩
end Go.Proofs.YtoifnnhbejofjaaDoor
end

/- glob.Check. -/
section
namespace Go.Proofs.YtoifnnhbejofjaaDoor
open Go.RowKit Plain

theorem u8_ne' {c : UInt8} {n : Nat} (hn : n < 256) (h : c ≠ UInt8.ofNat n) : decide ((c.toNat : Int) = (n : Int)) = false := by
  have := u8_ne hn h
  simpa using this

set_option maxHeartbeats 2000000 in
set_option maxRecDepth 10000 in
theorem Check_main (s : List UInt8) (w : World) (hT : Tabs w) (h0 : s ≠ []) (h400 : s.length ≤ 400) :
    Calls Tryd.prog 41 #[.string ⟨s.toArray⟩] w (Ret w (.tuple #[.int .i64 (checkP 400 s).1, .int .i64 (checkP 400 s).2])) := by
  have hinv := invalid_any s w hT (by omega)
  have hno : ¬ (s = [] ∨ 400 < s.length) := by rintro (h | h); exact h0 h; omega
  have hse : s.isEmpty = false := by cases s; exact absurd rfl h0; rfl
  have h4 : decide ((400 : Int) < (s.length : Int)) = false := by simp; omega
  cases hb : badP s with
  | some k =>
    rw [hb] at hinv
    have HC := Lib.hid (checkP_bad hno hb)
    have hk0 : decide ((0 : Int) ≤ (k : Int)) = true := by simp
    have HI := Lib.hid hinv
    clear hinv hno h0 hb hT
    go_enter Tryd.func41, Tryd.ntmps41
    go_wp2_with (fail)
    refine HI.out.mono ?_
    rintro e w1 ⟨rfl, hw1⟩
    go_wp2_with (fail)
    go_ret2
    exact ⟨by rw [HC.out]; rfl, hw1⟩
  | none =>
    rw [hb] at hinv
    have HC := Lib.hid (checkP_loop hno hb)
    have HI := Lib.hid hinv
    have HSET := Lib.hid (fun (r : List UInt8) W (h : (91 :: r).length ≤ 4294967280) => set_any r W h)
    clear hinv hno h0 hb hT
    go_enter Tryd.func41, Tryd.ntmps41
    go_wp2_with (fail)
    refine HI.out.mono ?_
    rintro e w1 ⟨rfl, hw1⟩
    have HB1 := Lib.hid hw1
    clear hw1
    go_wp2_with (fail)
    go_loopw [5, 6] (fun t5 t6 W => ∃ (k : Nat) (b : Bool) (r : List UInt8), k + r.length = s.length ∧ t6 = .string ⟨r.toArray⟩ ∧ t5 = .bool (!b) ∧ Hid (checkP 400 s = loopA k b r) ∧ Hid (Below w.heap.size w W)) (fun _ t6 _ => strLenG t6)
    case atStart => exact ⟨0, false, s, by omega, rfl, rfl, HC, HB1⟩
    case round =>
      obtain ⟨k, b, r, hkr, rfl, rfl, HE, HB⟩ := hrel
      cases r with
      | nil =>
        have HZ := Lib.hid (HE.out.trans (loopA_nil k b))
        go_wp2_with (fail)
        go_ret2
        exact ⟨by rw [HZ.out]; rfl, HB.out⟩
      | cons c q =>
        have hat : IntKind.i64.wrap ((s.length : Int) - ((q.length : Int) + 1)) = (k : Int) := by
          simp at hkr
          rw [show (s.length : Int) - ((q.length : Int) + 1) = k by omega]
          exact IntWalk.i64_in _ (by omega)
        have hkl : k + q.length + 1 = s.length := by simp at hkr; omega
        clear hkr
        by_cases h47 : c = 47
        · subst h47
          have hst := HE.out.trans loopA_slash
          cases b with
          | false =>
            rw [if_pos (.inl rfl)] at hst
            have HZ := Lib.hid hst
            clear hst
            go_wp2_with (fail)
            go_ret2
            exact ⟨by rw [HZ.out]; rfl, HB.out⟩
          | true =>
            cases q with
            | nil =>
              rw [if_pos (.inr rfl)] at hst
              have HZ := Lib.hid hst
              have HK := Lib.hid (show (k : Int) = (s.length : Int) - 1 by simp at hkl; omega)
              clear hst
              go_wp2_with (fail)
              go_ret2
              exact ⟨by rw [HZ.out]; show _ = Ending.returned (.tuple #[.int .i64 (k : Int), .int .i64 20]); rw [HK.out]; rfl, HB.out⟩
            | cons d q =>
              rw [if_neg (by simp)] at hst
              have HZ := Lib.hid hst
              have hq1 : ((q.length : Int) + 1 + 1 == 1) = false := by simp; omega
              clear hst
              go_wp2_with (fail)
              go_roundw
              case rel => exact ⟨k + 1, false, d :: q, by simp at hkl ⊢; omega, by simp, rfl, HZ, HB⟩
              case measure => simp [strLenG, ByteArray.size]
        have hc47 := u8_ne (n := 47) (by omega) h47
        by_cases h92 : c = 92
        · subst h92
          cases q with
          | nil =>
            have HZ := Lib.hid (HE.out.trans loopA_back0)
            have HK := Lib.hid (show (k : Int) = (s.length : Int) - 1 by simp at hkl; omega)
            go_wp2_with (fail)
            go_ret2
            exact ⟨by rw [HZ.out]; show _ = Ending.returned (.tuple #[.int .i64 (k : Int), .int .i64 20]); rw [HK.out]; rfl, HB.out⟩
          | cons d q =>
            have hst := HE.out.trans loopA_back
            have hat2 : IntKind.i64.wrap ((s.length : Int) - ((q.length : Int) + 1 + 1)) = (k : Int) := by
              simp at hkl
              rw [show (s.length : Int) - ((q.length : Int) + 1 + 1) = k by omega]
              exact IntWalk.i64_in _ (by omega)
            have hq1 : ((q.length : Int) + 1 + 1 == 1) = false := by simp; omega
            by_cases hd : d = 47
            · rw [if_pos hd] at hst
              have HZ := Lib.hid hst
              subst hd
              clear hst
              go_wp2_with (fail)
              go_ret2
              exact ⟨by rw [HZ.out]; rfl, HB.out⟩
            · rw [if_neg hd] at hst
              have HZ := Lib.hid hst
              have hd47 := u8_ne (n := 47) (by omega) hd
              clear hst hd
              go_wp2_with (fail)
              go_roundw
              case rel => exact ⟨k + 2, true, q, by simp at hkl ⊢; omega, by simp, rfl, HZ, HB⟩
              case measure => simp [strLenG, ByteArray.size]; omega
        have hc92 := u8_ne (n := 92) (by omega) h92
        by_cases h91 : c = 91
        · subst h91
          have hset := HSET.out q wr (by simp at hkl ⊢; omega)
          cases hcl : closeP (91 :: q) with
          | none =>
            have HZ := Lib.hid (HE.out.trans (loopA_set_none hcl))
            have HS := Lib.hid hset
            have HCL := Lib.hid hcl
            clear hset hcl
            go_wp2_with (fail)
            refine HS.out.mono ?_
            rintro e w2 ⟨_, h2, hw2⟩
            obtain ⟨a1, a2, rfl⟩ := h2 HCL.out
            go_wp2_with (fail)
            go_ret2
            exact ⟨by rw [HZ.out]; rfl, HB.out.trans (hw2.mono HB.out.size)⟩
          | some e =>
            have HZ := Lib.hid (HE.out.trans (loopA_set_some hcl))
            have HS := Lib.hid hset
            have HCL := Lib.hid hcl
            have hel : e < (91 :: q).length ∧ 1 ≤ e := by
              have h1 : setFrom (91 :: q) ≤ e ∧ e < setFrom (91 :: q) + ((91 :: q).drop (setFrom (91 :: q))).length ∧ e ≠ setFrom (91 :: q) ∧ ((91 :: q).drop (setFrom (91 :: q))).getD (e - setFrom (91 :: q)) 0 = 93 := closeF_le _ _ _ _ _ (Nat.le_refl _) hcl
              obtain ⟨h1, h2, _⟩ := h1
              have h3 : 1 ≤ setFrom (91 :: q) := by unfold setFrom; split <;> omega
              simp only [List.length_drop] at h2
              omega
            clear hset hcl
            generalize hrr : ((91 :: q : List UInt8).drop (e + 1)) = rr at *
            have hrl : k + e + 1 + rr.length = s.length := by rw [← hrr]; simp at hel ⊢; omega
            generalize ((91 :: q : List UInt8).take e).drop 1 = ii at *
            go_wp2_with (fail)
            refine HS.out.mono ?_
            rintro ee w2 ⟨h2, _, hw2⟩
            obtain rfl := h2 e HCL.out
            have HB2 := Lib.hid (HB.out.trans (hw2.mono HB.out.size))
            have HRR := Lib.hid hrr
            clear hw2 h2 hrr
            go_wp2_with (fail)
            go_roundw
            case rel => exact ⟨k + e + 1, true, rr, hrl, by rw [← HRR.out]; rfl, rfl, HZ, HB2⟩
            case measure =>
              have hq := HRR.out
              rw [List.drop_succ_cons] at hq
              rw [hq]; simp [strLenG, ByteArray.size]; omega
        have hc91 := u8_ne (n := 91) (by omega) h91
        have HZ := Lib.hid (HE.out.trans (loopA_one h47 h92 h91))
        clear h47 h92 h91
        go_wp2_with (fail)
        go_roundw
        case rel => exact ⟨k + 1, true, q, by omega, by simp, rfl, HZ, HB⟩
        case measure => simp [strLenG, ByteArray.size]

theorem Check_all (s : List UInt8) (w : World) (hT : Tabs w) :
    Calls Tryd.prog 41 #[.string ⟨s.toArray⟩] w (Ret w (.tuple #[.int .i64 (checkP 400 s).1, .int .i64 (checkP 400 s).2])) := by
  by_cases h0 : s = []
  · subst h0
    have HC := Lib.hid (checkP_long (m := 400) (s := []) (.inl rfl))
    go_enter Tryd.func41, Tryd.ntmps41
    go_wp2_with (fail)
    go_ret2
    exact ⟨by rw [HC.out]; rfl, Below.refl _ _⟩
  by_cases h4 : 400 < s.length
  · have HC := Lib.hid (checkP_long (m := 400) (s := s) (.inr h4))
    have hse : s.isEmpty = false := by cases s; exact absurd rfl h0; rfl
    have h4' : decide ((400 : Int) < (s.length : Int)) = true := by simp; omega
    clear h0 h4
    go_enter Tryd.func41, Tryd.ntmps41
    go_wp2_with (fail)
    go_ret2
    exact ⟨by rw [HC.out]; rfl, Below.refl _ _⟩
  exact Check_main s w hT h0 (by omega)
theorem Check_any (s : List UInt8) (w : World) (hT : Tabs w) (_ : s.length ≤ 9223372036854775807) :
    Calls Tryd.prog 41 #[.string ⟨s.toArray⟩] w (Ret w (.tuple #[.int .i64 (checkP 400 s).1, .int .i64 (checkP 400 s).2])) := Check_all s w hT
end Go.Proofs.YtoifnnhbejofjaaDoor
end
