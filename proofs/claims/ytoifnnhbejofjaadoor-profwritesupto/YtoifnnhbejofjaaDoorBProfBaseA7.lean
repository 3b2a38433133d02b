/- Texts joined: Prof3, GenSplit, Strs, AnyIdx, Name, SplitSeq. -/
import Derived.Test.YtoifnnhbejofjaaDoorBProfBaseA6
import Derived.Test.YtoifnnhbejofjaaDoorBProfBaseA2
import Derived.Test.YtoifnnhbejofjaaDoorBProfBaseA1
import Derived.Test.YtoifnnhbejofjaaDoorShelf
import Derived.Laws.Runes
import Derived.Laws.RangeAny
import Derived.Lib.Builder
import Derived.WalkMore
import Derived.Deep.QuietTactic
import Derived.BigQuiet
import Derived.Lib.IndexAny
import Derived.Lib.OthersKept
import Derived.RangeFuncNested
import Derived.RangeFuncBound
import Derived.RangeFuncCalls
import Derived.RangeFuncLeaves
import Derived.Shelf.Abstract
import Derived.Shelf.RegionOpen
import Derived.WalkKit
import Derived.OwnWalkIn
import Derived.TacticsInMore
import Derived.LoopNIn
import Derived.LoopIn
set_option linter.unusedSimpArgs false
set_option linter.unusedVariables false

/- prof: a line that includes nothing. -/
section
set_option linter.unusedVariables false
namespace Go.Proofs.YtoifnnhbejofjaaDoor
open Go.RowKit Plain

namespace Plain
theorem says_len {p q : PF} {w a : List UInt8} (h : saysP p w a = some q) (hp : p.ign.length ≤ 100 ∧ p.bak.length ≤ 100 ∧ p.mrg.length ≤ 100) : q.ign.length ≤ 100 ∧ q.bak.length ≤ 100 ∧ q.mrg.length ≤ 100 := by
  unfold saysP at h
  repeat' split at h
  all_goals first | (cases h; done) | (injection h with h; subst h; simp only [List.length_append, List.length_singleton]; omega)
end Plain

theorem laid_cells (w : World) (t : TypeId) (L : List Value) : ∀ j v, L[j]? = some v → (w.alloc (.cells L.toArray t)).cell? ((⟨w.heap.size, 0, none⟩ : Addr).add j) = some v := by
  intro j v h
  rw [show (⟨w.heap.size, 0, none⟩ : Addr).add j = ⟨w.heap.size, j, none⟩ by unfold Addr.add; split <;> simp_all, cell_of_row _ _ j _ _ _ (heap_alloc_new w _)]
  simpa using h

set_option maxHeartbeats 1000000 in
theorem says1_any (s : List UInt8) (w : World) (hT : Tabs w) : Calls Tryd.prog 49 #[.string ⟨s.toArray⟩] w (Ret w (.bool (okPat s))) := by
  have HC := Lib.hid (Check_all s w hT)
  unfold okPat
  have e1 : decide ((checkP 400 s).2 = 0) = (((checkP 400 s).2 : Int) == 0) := by
    rw [Bool.eq_iff_iff, decide_eq_true_eq, beq_iff_eq]; omega
  rw [e1]
  clear e1 hT
  generalize (checkP 400 s).1 = c1 at *
  generalize (checkP 400 s).2 = c2 at *
  go_enter Tryd.func49, Tryd.ntmps49
  go_wp2_with (go_at_call 41; refine HC.out.mono ?_; rintro e w1 ⟨rfl, hw1⟩)
  go_ret
  exact ⟨by simp, hw1⟩

theorem info_rule : (Tryd.prog.info? 67).map (fun i => (i.zero, i.size, i.bytes)) = some (some (.agg #[.bool false, .string ByteArray.empty]), 2, 24) := by kernel_rfl
theorem info_pgm : (Tryd.prog.info? 54).map (fun i => (i.zero, i.size, i.bytes)) = some (some (.agg #[.string ByteArray.empty, .string ByteArray.empty]), 2, 32) := by kernel_rfl

/-- What a line tells. -/
def SaysOut (S : Nat → Prop) (b base : Nat) (A : Option Addr) (n c : Nat) (inside : List (List UInt8)) (wh : Txt) (w : World) (r : Option PF) (e : Ending) (w' : World) : Prop :=
  ∃ p' vl vi vb vm, e = .returned (.bool r.isSome) ∧ Rd S w b base A n c inside p' wh vl vi vb vm w' ∧ ∀ q, r = some q → p' = q

section
variable {S : Nat → Prop} {b base : Nat} {A : Option Addr} {n c : Nat} {inside : List (List UInt8)} {p : PF} {wh : Txt} {vl vi vb vm : Value} {w : World}
set_option maxHeartbeats 4000000 in
set_option maxRecDepth 100000 in
theorem says_ign (wd a : List UInt8) (hw : wd = wIgnore ∨ wd = wKeep) (h : RdAt S b base A n c inside p wh vl vi vb vm w) (hT : ∀ W, Below b w W → Tabs W) (hlen : p.ign.length ≤ 100) (hbw : base ≤ w.heap.size) :
    Calls Tryd.prog 33 #[.pointer (some ⟨b, 0, none⟩), .string ⟨wd.toArray⟩, .string ⟨a.toArray⟩] w (SaysOut S b base A n c inside wh w (saysP p wd a)) := by
  obtain ⟨it0, hi1, hy0, hy1, hy2⟩ := info_parts info_rule
  have HIN := Lib.hid hi1
  have HTB := Lib.hid (fun W (h : Below b w W) => says1_any a W (hT W h))
  have HR := Lib.hid h
  obtain ⟨-, -, c2, -, -, -, -⟩ := h.cells
  obtain ⟨A2, d2, hvi, hd1, hd2, hrd⟩ := IsSlice.of_own h.ign
  subst hvi
  have HO := Lib.hid h.ign
  have hblt := h.hb
  obtain ⟨g, hg⟩ : ∃ g, decide (wd = wIgnore) = g := ⟨_, rfl⟩
  obtain ⟨r, hr⟩ : ∃ r, saysP p wd a = r := ⟨_, rfl⟩
  have HSAY : Hid (r = if okPat a = true ∧ p.ign.length < 100 then some { p with ign := p.ign ++ [⟨a, g⟩] } else none) := Lib.hid (by rw [← hr, ← hg]; unfold saysP; rw [if_pos hw])
  rw [hr]
  generalize okPat a = ok at *
  have HST : Hid (∀ (v1 : Value) (wf : World), wf.ownsRow base 67 2 v1 (p.ign.length + 1) (rowsE rulV p.ign ++ rulV ⟨a, g⟩) → (w.alloc (.cells (rulV ⟨a, g⟩).toArray 67)).grownBy wf (Value.slice A2 p.ign.length d2).ownBlock → Lies (w.alloc (.cells (rulV ⟨a, g⟩).toArray 67)) (.slice A2 p.ign.length d2) v1 →
      ∃ A3 d3, v1 = .slice A3 (p.ign.length + 1) d3 ∧ wf.cell? ⟨b, 2, none⟩ = some (.slice A2 p.ign.length d2) ∧ wf.frozen? ⟨b, 2, none⟩ = false ∧ Rd S w b base A n c inside { p with ign := p.ign ++ [⟨a, g⟩] } wh vl v1 vb vm (wf.setCell ⟨b, 2, none⟩ v1)) := by
    refine Lib.hid ?_
    intro v1 wf hown hgr hli
    obtain ⟨A3, d3, e3, -, -, -⟩ := IsSlice.of_own hown
    have hal := (Below.refl w.heap.size w).alloc (Nat.le_refl _) (.cells (rulV ⟨a, g⟩).toArray 67)
    have h1 := HR.out.start.below hal
    exact ⟨A3, d3, e3, (h1.at_.still h1.at_.ign hgr 2).trans h1.at_.cells.2.2.1, h1.at_.free h1.at_.ign hgr 2, h1.step (h1.at_.addIgn (w' := wf.setCell ⟨b, 2, none⟩ v1) ⟨a, g⟩ hown hgr hli rfl)⟩
  clear hi1 h hT hrd hd1 hd2 hr
  rcases hw with rfl | rfl
  · obtain rfl : g = true := by rw [← hg]; exact decide_eq_true rfl
    clear hg
    unfold wIgnore
    go_enter Tryd.func33, Tryd.ntmps33
    go_wp2_with (at_builtin; refine wpList_append_two rfl _ _ 24 rfl base 67 it0 _ 2 24 Tryd.underlying24 HIN.out hy0 hy1 hy2 rfl (by decide) _ _ _ rfl (HO.out.alloc _) ⟨w.heap.size, 0, none⟩ 1 1 [.bool true, .string ⟨a.toArray⟩] rfl rfl (laid_cells w _ _) (by intro u hu; simp at hu; rcases hu with rfl | rfl <;> rfl) ?c3 ?c4 ?c5 ?_)
    case c3 => unfold maxLen; omega
    case c4 => omega
    case c5 => simp; omega
    intro v1 wf hown hgr hli
    obtain ⟨A3, d3, rfl, f1, f2, hrd⟩ := HST.out v1 wf hown hgr hli
    clear hown hgr hli c2 HST HO
    have HR1 := Lib.hid hrd
    clear hrd
    go_wp2_with (fail)
    refine (HTB.out _ HR1.out.kept).mono ?_
    rintro e w4 ⟨rfl, hw4⟩
    have HR2 := Lib.hid (HR1.out.below hw4)
    have f3 := HR2.out.at_.cells.2.2.1
    clear hw4 HR1 f1 f2 HTB
    cases ok with
    | false =>
      go_wp2_with (fail)
      go_ret
      exact ⟨_, _, _, _, _, by rw [HSAY.out]; rfl, HR2.out, fun q hq => by rw [HSAY.out] at hq; cases hq⟩
    | true =>
      by_cases h100 : p.ign.length < 100
      · have g100 : decide ((p.ign.length : Int) + 1 ≤ 100) = true := by rw [decide_eq_true_eq]; omega
        have HSAY2 := Lib.hid (HSAY.out.trans (if_pos ⟨rfl, h100⟩))
        clear h100 HSAY
        go_wp2_with (fail)
        go_ret
        exact ⟨_, _, _, _, _, by rw [HSAY2.out]; rfl, HR2.out, fun q hq => by rw [HSAY2.out] at hq; injection hq⟩
      · have g100 : decide ((p.ign.length : Int) + 1 ≤ 100) = false := by rw [decide_eq_false_iff_not]; omega
        have HSAY2 := Lib.hid (HSAY.out.trans (if_neg (fun h => h100 h.2)))
        clear h100 HSAY
        go_wp2_with (fail)
        go_ret
        exact ⟨_, _, _, _, _, by rw [HSAY2.out]; rfl, HR2.out, fun q hq => by rw [HSAY2.out] at hq; cases hq⟩
  · obtain rfl : g = false := by rw [← hg]; decide
    clear hg
    unfold wKeep
    go_enter Tryd.func33, Tryd.ntmps33
    go_wp2_with (at_builtin; refine wpList_append_two rfl _ _ 24 rfl base 67 it0 _ 2 24 Tryd.underlying24 HIN.out hy0 hy1 hy2 rfl (by decide) _ _ _ rfl (HO.out.alloc _) ⟨w.heap.size, 0, none⟩ 1 1 [.bool false, .string ⟨a.toArray⟩] rfl rfl (laid_cells w _ _) (by intro u hu; simp at hu; rcases hu with rfl | rfl <;> rfl) ?c3 ?c4 ?c5 ?_)
    case c3 => unfold maxLen; omega
    case c4 => omega
    case c5 => simp; omega
    intro v1 wf hown hgr hli
    obtain ⟨A3, d3, rfl, f1, f2, hrd⟩ := HST.out v1 wf hown hgr hli
    clear hown hgr hli c2 HST HO
    have HR1 := Lib.hid hrd
    clear hrd
    go_wp2_with (fail)
    refine (HTB.out _ HR1.out.kept).mono ?_
    rintro e w4 ⟨rfl, hw4⟩
    have HR2 := Lib.hid (HR1.out.below hw4)
    have f3 := HR2.out.at_.cells.2.2.1
    clear hw4 HR1 f1 f2 HTB
    cases ok with
    | false =>
      go_wp2_with (fail)
      go_ret
      exact ⟨_, _, _, _, _, by rw [HSAY.out]; rfl, HR2.out, fun q hq => by rw [HSAY.out] at hq; cases hq⟩
    | true =>
      by_cases h100 : p.ign.length < 100
      · have g100 : decide ((p.ign.length : Int) + 1 ≤ 100) = true := by rw [decide_eq_true_eq]; omega
        have HSAY2 := Lib.hid (HSAY.out.trans (if_pos ⟨rfl, h100⟩))
        clear h100 HSAY
        go_wp2_with (fail)
        go_ret
        exact ⟨_, _, _, _, _, by rw [HSAY2.out]; rfl, HR2.out, fun q hq => by rw [HSAY2.out] at hq; injection hq⟩
      · have g100 : decide ((p.ign.length : Int) + 1 ≤ 100) = false := by rw [decide_eq_false_iff_not]; omega
        have HSAY2 := Lib.hid (HSAY.out.trans (if_neg (fun h => h100 h.2)))
        clear h100 HSAY
        go_wp2_with (fail)
        go_ret
        exact ⟨_, _, _, _, _, by rw [HSAY2.out]; rfl, HR2.out, fun q hq => by rw [HSAY2.out] at hq; cases hq⟩
set_option maxHeartbeats 4000000 in
set_option maxRecDepth 100000 in
theorem says_bak (wd a : List UInt8) (hw : wd = wBackup ∨ wd = wDrop) (h : RdAt S b base A n c inside p wh vl vi vb vm w) (hT : ∀ W, Below b w W → Tabs W) (hlen : p.bak.length ≤ 100) (hbw : base ≤ w.heap.size) :
    Calls Tryd.prog 33 #[.pointer (some ⟨b, 0, none⟩), .string ⟨wd.toArray⟩, .string ⟨a.toArray⟩] w (SaysOut S b base A n c inside wh w (saysP p wd a)) := by
  obtain ⟨it0, hi1, hy0, hy1, hy2⟩ := info_parts info_rule
  have HIN := Lib.hid hi1
  have HTB := Lib.hid (fun W (h : Below b w W) => says1_any a W (hT W h))
  have HR := Lib.hid h
  obtain ⟨-, -, -, c2, -, -, -⟩ := h.cells
  obtain ⟨A2, d2, hvi, hd1, hd2, hrd⟩ := IsSlice.of_own h.bak
  subst hvi
  have HO := Lib.hid h.bak
  have hblt := h.hb
  obtain ⟨g, hg⟩ : ∃ g, decide (wd = wBackup) = g := ⟨_, rfl⟩
  obtain ⟨r, hr⟩ : ∃ r, saysP p wd a = r := ⟨_, rfl⟩
  have HSAY : Hid (r = if okPat a = true ∧ p.bak.length < 100 then some { p with bak := p.bak ++ [⟨a, g⟩] } else none) := Lib.hid (by rw [← hr, ← hg]; unfold saysP; rw [if_neg (by rcases hw with rfl | rfl <;> decide), if_pos hw])
  rw [hr]
  generalize okPat a = ok at *
  have HST : Hid (∀ (v1 : Value) (wf : World), wf.ownsRow base 67 2 v1 (p.bak.length + 1) (rowsE rulV p.bak ++ rulV ⟨a, g⟩) → (w.alloc (.cells (rulV ⟨a, g⟩).toArray 67)).grownBy wf (Value.slice A2 p.bak.length d2).ownBlock → Lies (w.alloc (.cells (rulV ⟨a, g⟩).toArray 67)) (.slice A2 p.bak.length d2) v1 →
      ∃ A3 d3, v1 = .slice A3 (p.bak.length + 1) d3 ∧ wf.cell? ⟨b, 3, none⟩ = some (.slice A2 p.bak.length d2) ∧ wf.frozen? ⟨b, 3, none⟩ = false ∧ Rd S w b base A n c inside { p with bak := p.bak ++ [⟨a, g⟩] } wh vl vi v1 vm (wf.setCell ⟨b, 3, none⟩ v1)) := by
    refine Lib.hid ?_
    intro v1 wf hown hgr hli
    obtain ⟨A3, d3, e3, -, -, -⟩ := IsSlice.of_own hown
    have hal := (Below.refl w.heap.size w).alloc (Nat.le_refl _) (.cells (rulV ⟨a, g⟩).toArray 67)
    have h1 := HR.out.start.below hal
    exact ⟨A3, d3, e3, (h1.at_.still h1.at_.bak hgr 3).trans h1.at_.cells.2.2.2.1, h1.at_.free h1.at_.bak hgr 3, h1.step (h1.at_.addBak (w' := wf.setCell ⟨b, 3, none⟩ v1) ⟨a, g⟩ hown hgr hli rfl)⟩
  clear hi1 h hT hrd hd1 hd2 hr
  rcases hw with rfl | rfl
  · obtain rfl : g = true := by rw [← hg]; exact decide_eq_true rfl
    clear hg
    unfold wBackup
    go_enter Tryd.func33, Tryd.ntmps33
    go_wp2_with (at_builtin; refine wpList_append_two rfl _ _ 24 rfl base 67 it0 _ 2 24 Tryd.underlying24 HIN.out hy0 hy1 hy2 rfl (by decide) _ _ _ rfl (HO.out.alloc _) ⟨w.heap.size, 0, none⟩ 1 1 [.bool true, .string ⟨a.toArray⟩] rfl rfl (laid_cells w _ _) (by intro u hu; simp at hu; rcases hu with rfl | rfl <;> rfl) ?c3 ?c4 ?c5 ?_)
    case c3 => unfold maxLen; omega
    case c4 => omega
    case c5 => simp; omega
    intro v1 wf hown hgr hli
    obtain ⟨A3, d3, rfl, f1, f2, hrd⟩ := HST.out v1 wf hown hgr hli
    clear hown hgr hli c2 HST HO
    have HR1 := Lib.hid hrd
    clear hrd
    go_wp2_with (fail)
    refine (HTB.out _ HR1.out.kept).mono ?_
    rintro e w4 ⟨rfl, hw4⟩
    have HR2 := Lib.hid (HR1.out.below hw4)
    have f3 := HR2.out.at_.cells.2.2.2.1
    clear hw4 HR1 f1 f2 HTB
    cases ok with
    | false =>
      go_wp2_with (fail)
      go_ret
      exact ⟨_, _, _, _, _, by rw [HSAY.out]; rfl, HR2.out, fun q hq => by rw [HSAY.out] at hq; cases hq⟩
    | true =>
      by_cases h100 : p.bak.length < 100
      · have g100 : decide ((p.bak.length : Int) + 1 ≤ 100) = true := by rw [decide_eq_true_eq]; omega
        have HSAY2 := Lib.hid (HSAY.out.trans (if_pos ⟨rfl, h100⟩))
        clear h100 HSAY
        go_wp2_with (fail)
        go_ret
        exact ⟨_, _, _, _, _, by rw [HSAY2.out]; rfl, HR2.out, fun q hq => by rw [HSAY2.out] at hq; injection hq⟩
      · have g100 : decide ((p.bak.length : Int) + 1 ≤ 100) = false := by rw [decide_eq_false_iff_not]; omega
        have HSAY2 := Lib.hid (HSAY.out.trans (if_neg (fun h => h100 h.2)))
        clear h100 HSAY
        go_wp2_with (fail)
        go_ret
        exact ⟨_, _, _, _, _, by rw [HSAY2.out]; rfl, HR2.out, fun q hq => by rw [HSAY2.out] at hq; cases hq⟩
  · obtain rfl : g = false := by rw [← hg]; decide
    clear hg
    unfold wDrop
    go_enter Tryd.func33, Tryd.ntmps33
    go_wp2_with (at_builtin; refine wpList_append_two rfl _ _ 24 rfl base 67 it0 _ 2 24 Tryd.underlying24 HIN.out hy0 hy1 hy2 rfl (by decide) _ _ _ rfl (HO.out.alloc _) ⟨w.heap.size, 0, none⟩ 1 1 [.bool false, .string ⟨a.toArray⟩] rfl rfl (laid_cells w _ _) (by intro u hu; simp at hu; rcases hu with rfl | rfl <;> rfl) ?c3 ?c4 ?c5 ?_)
    case c3 => unfold maxLen; omega
    case c4 => omega
    case c5 => simp; omega
    intro v1 wf hown hgr hli
    obtain ⟨A3, d3, rfl, f1, f2, hrd⟩ := HST.out v1 wf hown hgr hli
    clear hown hgr hli c2 HST HO
    have HR1 := Lib.hid hrd
    clear hrd
    go_wp2_with (fail)
    refine (HTB.out _ HR1.out.kept).mono ?_
    rintro e w4 ⟨rfl, hw4⟩
    have HR2 := Lib.hid (HR1.out.below hw4)
    have f3 := HR2.out.at_.cells.2.2.2.1
    clear hw4 HR1 f1 f2 HTB
    cases ok with
    | false =>
      go_wp2_with (fail)
      go_ret
      exact ⟨_, _, _, _, _, by rw [HSAY.out]; rfl, HR2.out, fun q hq => by rw [HSAY.out] at hq; cases hq⟩
    | true =>
      by_cases h100 : p.bak.length < 100
      · have g100 : decide ((p.bak.length : Int) + 1 ≤ 100) = true := by rw [decide_eq_true_eq]; omega
        have HSAY2 := Lib.hid (HSAY.out.trans (if_pos ⟨rfl, h100⟩))
        clear h100 HSAY
        go_wp2_with (fail)
        go_ret
        exact ⟨_, _, _, _, _, by rw [HSAY2.out]; rfl, HR2.out, fun q hq => by rw [HSAY2.out] at hq; injection hq⟩
      · have g100 : decide ((p.bak.length : Int) + 1 ≤ 100) = false := by rw [decide_eq_false_iff_not]; omega
        have HSAY2 := Lib.hid (HSAY.out.trans (if_neg (fun h => h100 h.2)))
        clear h100 HSAY
        go_wp2_with (fail)
        go_ret
        exact ⟨_, _, _, _, _, by rw [HSAY2.out]; rfl, HR2.out, fun q hq => by rw [HSAY2.out] at hq; cases hq⟩
set_option maxHeartbeats 4000000 in
set_option maxRecDepth 100000 in
theorem says_mrg (a : List UInt8) (h : RdAt S b base A n c inside p wh vl vi vb vm w) (hT : ∀ W, Below b w W → Tabs W) (hlen : p.mrg.length ≤ 100) (hbw : base ≤ w.heap.size) (ha : a.length ≤ 4294967280) :
    Calls Tryd.prog 33 #[.pointer (some ⟨b, 0, none⟩), .string ⟨wMerge.toArray⟩, .string ⟨a.toArray⟩] w (SaysOut S b base A n c inside wh w (saysP p wMerge a)) := by
  obtain ⟨it0, hi1, hy0, hy1, hy2⟩ := info_parts info_pgm
  have HIN := Lib.hid hi1
  have HCUT := Lib.hid (fun W => cut_any a W ha)
  have hcl := cut_le a
  obtain ⟨r, hr⟩ : ∃ r, saysP p wMerge a = r := ⟨_, rfl⟩
  have HSAY : Hid (r = if okPat (cutP a).2 = true ∧ wordP (cutP a).1 = true ∧ p.mrg.length < 100 then some { p with mrg := p.mrg ++ [⟨(cutP a).1, (cutP a).2⟩] } else none) := Lib.hid (by rw [← hr]; unfold saysP; rw [if_neg (by decide), if_neg (by decide), if_pos rfl])
  rw [hr]
  clear hr
  generalize (cutP a).1 = nm at *
  generalize (cutP a).2 = pt at *
  have HWD := Lib.hid (fun W => word_any nm W (by omega))
  have HTB := Lib.hid (fun W (h : Below b w W) => says1_any pt W (hT W h))
  clear hcl
  have HR := Lib.hid h
  have hblt := h.hb
  generalize okPat pt = ok at *
  generalize wordP nm = okw at *
  have HST : Hid (∀ (w0 : World), Below w.heap.size w w0 → ∃ A2 d2, w0.cell? ⟨b, 4, none⟩ = some (.slice A2 p.mrg.length d2) ∧ w0.ownsRow base 54 2 (.slice A2 p.mrg.length d2) p.mrg.length (rowsE pgmV p.mrg) ∧ base ≤ w0.heap.size ∧ ∀ (v1 : Value) (wf : World), wf.ownsRow base 54 2 v1 (p.mrg.length + 1) (rowsE pgmV p.mrg ++ pgmV ⟨nm, pt⟩) → (w0.alloc (.cells (pgmV ⟨nm, pt⟩).toArray 54)).grownBy wf (Value.slice A2 p.mrg.length d2).ownBlock → Lies (w0.alloc (.cells (pgmV ⟨nm, pt⟩).toArray 54)) (.slice A2 p.mrg.length d2) v1 →
      ∃ A3 d3, v1 = .slice A3 (p.mrg.length + 1) d3 ∧ wf.cell? ⟨b, 4, none⟩ = some (.slice A2 p.mrg.length d2) ∧ wf.frozen? ⟨b, 4, none⟩ = false ∧ Rd S w b base A n c inside { p with mrg := p.mrg ++ [⟨nm, pt⟩] } wh vl vi vb v1 (wf.setCell ⟨b, 4, none⟩ v1)) := by
    refine Lib.hid ?_
    intro w0 hb0
    have h0 := HR.out.start.below hb0
    obtain ⟨A2, d2, hvm, -, -, -⟩ := IsSlice.of_own h0.at_.mrg
    subst hvm
    refine ⟨A2, d2, h0.at_.cells.2.2.2.2.1, h0.at_.mrg, Nat.le_trans hbw hb0.size, ?_⟩
    intro v1 wf hown hgr hli
    obtain ⟨A3, d3, e3, -, -, -⟩ := IsSlice.of_own hown
    have hal := (Below.refl w0.heap.size w0).alloc (Nat.le_refl _) (.cells (pgmV ⟨nm, pt⟩).toArray 54)
    have h1 := h0.below hal
    exact ⟨A3, d3, e3, (h1.at_.still h1.at_.mrg hgr 4).trans h1.at_.cells.2.2.2.2.1, h1.at_.free h1.at_.mrg hgr 4, h1.step (h1.at_.addMrg (w' := wf.setCell ⟨b, 4, none⟩ v1) ⟨nm, pt⟩ hown hgr hli rfl)⟩
  clear hi1 h hT
  unfold wMerge
  go_enter Tryd.func33, Tryd.ntmps33
  go_wp2_with (fail)
  refine (HCUT.out _).mono ?_
  rintro e w0 ⟨rfl, hw0⟩
  obtain ⟨A2, d2, c4, hown0, hbw0, hst⟩ := HST.out w0 hw0
  have HO := Lib.hid hown0
  have HST2 := Lib.hid hst
  have hblt0 : b < w0.heap.size := Nat.lt_of_lt_of_le hblt hw0.size
  clear hst hown0 HST hw0 hbw
  go_wp2_with (at_builtin; refine wpList_append_two rfl _ _ 25 rfl base 54 it0 _ 2 32 Tryd.underlying25 HIN.out hy0 hy1 hy2 rfl (by decide) _ _ _ rfl (HO.out.alloc _) ⟨w0.heap.size, 0, none⟩ 1 1 [.string ⟨nm.toArray⟩, .string ⟨pt.toArray⟩] rfl rfl (laid_cells w0 _ _) (by intro u hu; simp at hu; rcases hu with rfl | rfl <;> rfl) ?c3 ?c4 ?c5 ?_)
  case c3 => unfold maxLen; omega
  case c4 => omega
  case c5 => simp; omega
  intro v1 wf hown hgr hli
  obtain ⟨A3, d3, rfl, f1, f2, hrd⟩ := HST2.out v1 wf hown hgr hli
  clear hown hgr hli c4 HST2 HO
  have HR1 := Lib.hid hrd
  clear hrd
  go_wp2_with (fail)
  refine (HWD.out _).mono ?_
  rintro e w4 ⟨rfl, hw4⟩
  have HR2 := Lib.hid (HR1.out.below hw4)
  clear hw4 HR1 f1 f2
  cases okw with
  | false =>
    have HSAY2 := Lib.hid (HSAY.out.trans (if_neg (fun h => by cases h.2.1)))
    clear HSAY
    go_wp2_with (fail)
    go_ret
    exact ⟨_, _, _, _, _, by rw [HSAY2.out]; rfl, HR2.out, fun q hq => by rw [HSAY2.out] at hq; cases hq⟩
  | true =>
    go_wp2_with (fail)
    refine (HTB.out _ HR2.out.kept).mono ?_
    rintro e w5 ⟨rfl, hw5⟩
    have HR3 := Lib.hid (HR2.out.below hw5)
    have f3 := HR3.out.at_.cells.2.2.2.2.1
    clear hw5 HR2
    cases ok with
    | false =>
      have HSAY2 := Lib.hid (HSAY.out.trans (if_neg (fun h => by cases h.1)))
      clear HSAY
      go_wp2_with (fail)
      go_ret
      exact ⟨_, _, _, _, _, by rw [HSAY2.out]; rfl, HR3.out, fun q hq => by rw [HSAY2.out] at hq; cases hq⟩
    | true =>
      by_cases h100 : p.mrg.length < 100
      · have g100 : decide ((p.mrg.length : Int) + 1 ≤ 100) = true := by rw [decide_eq_true_eq]; omega
        have HSAY2 := Lib.hid (HSAY.out.trans (if_pos (by refine ⟨?_, ?_, h100⟩ <;> trivial)))
        clear h100 HSAY
        go_wp2_with (fail)
        go_ret
        exact ⟨_, _, _, _, _, by rw [HSAY2.out]; rfl, HR3.out, fun q hq => by rw [HSAY2.out] at hq; injection hq⟩
      · have g100 : decide ((p.mrg.length : Int) + 1 ≤ 100) = false := by rw [decide_eq_false_iff_not]; omega
        have HSAY2 := Lib.hid (HSAY.out.trans (if_neg (fun h => h100 h.2.2)))
        clear h100 HSAY
        go_wp2_with (fail)
        go_ret
        exact ⟨_, _, _, _, _, by rw [HSAY2.out]; rfl, HR3.out, fun q hq => by rw [HSAY2.out] at hq; cases hq⟩
set_option maxHeartbeats 4000000 in
set_option maxRecDepth 100000 in
theorem says_pre (a : List UInt8) (h : RdAt S b base A n c inside p wh vl vi vb vm w) :
    Calls Tryd.prog 33 #[.pointer (some ⟨b, 0, none⟩), .string ⟨wPrefer.toArray⟩, .string ⟨a.toArray⟩] w (SaysOut S b base A n c inside wh w (saysP p wPrefer a)) := by
  have HSD := Lib.hid (fun W => side_any a W)
  obtain ⟨r, hr⟩ : ∃ r, saysP p wPrefer a = r := ⟨_, rfl⟩
  have HSAY : Hid (r = if sideP a ≠ 0 then some { p with pre := sideP a } else none) := Lib.hid (by rw [← hr]; unfold saysP; rw [if_neg (by decide), if_neg (by decide), if_neg (by decide), if_pos rfl])
  rw [hr]
  clear hr
  generalize sideP a = sd at *
  have HR := Lib.hid h
  have hblt := h.hb
  have HST : Hid (∀ (w0 : World), Below w.heap.size w w0 → w0.cell? ⟨b, 5, none⟩ = some (.int .i64 p.pre) ∧ w0.frozen? ⟨b, 5, none⟩ = false ∧ Rd S w b base A n c inside { p with pre := sd } wh vl vi vb vm (w0.setCell ⟨b, 5, none⟩ (.int .i64 sd))) := by
    refine Lib.hid ?_
    intro w0 hb0
    have h0 := HR.out.start.below hb0
    exact ⟨cell_of_row _ _ 5 _ _ _ h0.at_.head, h0.at_.soft 5, h0.step (h0.at_.num (p' := { p with pre := sd }) ⟨rfl, rfl, rfl⟩ _ rfl rfl)⟩
  clear h
  unfold wPrefer
  go_enter Tryd.func33, Tryd.ntmps33
  go_wp2_with (fail)
  refine (HSD.out _).mono ?_
  rintro e w0 ⟨rfl, hw0⟩
  obtain ⟨f1, f2, hrd⟩ := HST.out w0 hw0
  have HR1 := Lib.hid hrd
  have f3 : (w0.setCell ⟨b, 5, none⟩ (.int .i64 sd)).cell? ⟨b, 5, none⟩ = some (.int .i64 sd) := cell_of_row _ _ 5 _ _ _ hrd.at_.head
  clear hrd HST hw0
  by_cases h0 : sd = 0
  · have HSAY2 := Lib.hid (HSAY.out.trans (if_neg (fun h => h h0)))
    have g0 : (sd != 0) = false := by simpa using h0
    clear h0 HSAY
    go_wp2_with (fail)
    go_ret
    exact ⟨_, _, _, _, _, by rw [HSAY2.out]; rfl, HR1.out, fun q hq => by rw [HSAY2.out] at hq; cases hq⟩
  · have HSAY2 := Lib.hid (HSAY.out.trans (if_pos h0))
    have g0 : (sd != 0) = true := by simpa using h0
    clear h0 HSAY
    go_wp2_with (fail)
    go_ret
    exact ⟨_, _, _, _, _, by rw [HSAY2.out]; rfl, HR1.out, fun q hq => by rw [HSAY2.out] at hq; injection hq⟩
set_option maxHeartbeats 4000000 in
set_option maxRecDepth 100000 in
theorem says_frc (a : List UInt8) (h : RdAt S b base A n c inside p wh vl vi vb vm w) :
    Calls Tryd.prog 33 #[.pointer (some ⟨b, 0, none⟩), .string ⟨wForce.toArray⟩, .string ⟨a.toArray⟩] w (SaysOut S b base A n c inside wh w (saysP p wForce a)) := by
  have HSD := Lib.hid (fun W => side_any a W)
  obtain ⟨r, hr⟩ : ∃ r, saysP p wForce a = r := ⟨_, rfl⟩
  have HSAY : Hid (r = if sideP a ≠ 0 then some { p with frc := sideP a } else none) := Lib.hid (by rw [← hr]; unfold saysP; rw [if_neg (by decide), if_neg (by decide), if_neg (by decide), if_neg (by decide), if_pos rfl])
  rw [hr]
  clear hr
  generalize sideP a = sd at *
  have HR := Lib.hid h
  have hblt := h.hb
  have HST : Hid (∀ (w0 : World), Below w.heap.size w w0 → w0.cell? ⟨b, 6, none⟩ = some (.int .i64 p.frc) ∧ w0.frozen? ⟨b, 6, none⟩ = false ∧ Rd S w b base A n c inside { p with frc := sd } wh vl vi vb vm (w0.setCell ⟨b, 6, none⟩ (.int .i64 sd))) := by
    refine Lib.hid ?_
    intro w0 hb0
    have h0 := HR.out.start.below hb0
    exact ⟨cell_of_row _ _ 6 _ _ _ h0.at_.head, h0.at_.soft 6, h0.step (h0.at_.num (p' := { p with frc := sd }) ⟨rfl, rfl, rfl⟩ _ rfl rfl)⟩
  clear h
  unfold wForce
  go_enter Tryd.func33, Tryd.ntmps33
  go_wp2_with (fail)
  refine (HSD.out _).mono ?_
  rintro e w0 ⟨rfl, hw0⟩
  obtain ⟨f1, f2, hrd⟩ := HST.out w0 hw0
  have HR1 := Lib.hid hrd
  have f3 : (w0.setCell ⟨b, 6, none⟩ (.int .i64 sd)).cell? ⟨b, 6, none⟩ = some (.int .i64 sd) := cell_of_row _ _ 6 _ _ _ hrd.at_.head
  clear hrd HST hw0
  by_cases h0 : sd = 0
  · have HSAY2 := Lib.hid (HSAY.out.trans (if_neg (fun h => h h0)))
    have g0 : (sd != 0) = false := by simpa using h0
    clear h0 HSAY
    go_wp2_with (fail)
    go_ret
    exact ⟨_, _, _, _, _, by rw [HSAY2.out]; rfl, HR1.out, fun q hq => by rw [HSAY2.out] at hq; cases hq⟩
  · have HSAY2 := Lib.hid (HSAY.out.trans (if_pos h0))
    have g0 : (sd != 0) = true := by simpa using h0
    clear h0 HSAY
    go_wp2_with (fail)
    go_ret
    exact ⟨_, _, _, _, _, by rw [HSAY2.out]; rfl, HR1.out, fun q hq => by rw [HSAY2.out] at hq; injection hq⟩
set_option maxHeartbeats 4000000 in
set_option maxRecDepth 100000 in
theorem says_bat (a : List UInt8) (h : RdAt S b base A n c inside p wh vl vi vb vm w) :
    Calls Tryd.prog 33 #[.pointer (some ⟨b, 0, none⟩), .string ⟨wBatch.toArray⟩, .string ⟨a.toArray⟩] w (SaysOut S b base A n c inside wh w (saysP p wBatch a)) := by
  obtain ⟨r, hr⟩ : ∃ r, saysP p wBatch a = r := ⟨_, rfl⟩
  have HSAY : Hid (r = if a = [] then some { p with bat := true } else none) := Lib.hid (by rw [← hr]; unfold saysP; rw [if_neg (by decide), if_neg (by decide), if_neg (by decide), if_neg (by decide), if_neg (by decide), if_pos rfl])
  rw [hr]
  clear hr
  have hblt := h.hb
  have f1 := cell_of_row _ _ 7 _ _ _ h.head
  have f2 := h.soft 7
  have HR1 := Lib.hid (h.start.step (h.start.at_.num (p' := { p with bat := true }) ⟨rfl, rfl, rfl⟩ (w.setCell ⟨b, 7, none⟩ (.bool true)) rfl rfl))
  clear h
  unfold wBatch
  cases a with
  | nil =>
    have HSAY2 := Lib.hid (HSAY.out.trans (if_pos rfl))
    clear HSAY
    go_enter Tryd.func33, Tryd.ntmps33
    go_wp2_with (fail)
    go_ret
    exact ⟨_, _, _, _, _, by rw [HSAY2.out]; rfl, HR1.out, fun q hq => by rw [HSAY2.out] at hq; injection hq⟩
  | cons x rr =>
    have HSAY2 := Lib.hid (HSAY.out.trans (if_neg (by simp)))
    have ge : (x :: rr).isEmpty = false := rfl
    generalize x :: rr = a at *
    clear HSAY
    go_enter Tryd.func33, Tryd.ntmps33
    go_wp2_with (fail)
    go_ret
    exact ⟨_, _, _, _, _, by rw [HSAY2.out]; rfl, HR1.out, fun q hq => by rw [HSAY2.out] at hq; cases hq⟩
set_option maxHeartbeats 4000000 in
set_option maxRecDepth 100000 in
theorem says_fst (a : List UInt8) (h : RdAt S b base A n c inside p wh vl vi vb vm w) :
    Calls Tryd.prog 33 #[.pointer (some ⟨b, 0, none⟩), .string ⟨wFast.toArray⟩, .string ⟨a.toArray⟩] w (SaysOut S b base A n c inside wh w (saysP p wFast a)) := by
  obtain ⟨r, hr⟩ : ∃ r, saysP p wFast a = r := ⟨_, rfl⟩
  have HSAY : Hid (r = if a = [] then some { p with fst := true } else none) := Lib.hid (by rw [← hr]; unfold saysP; rw [if_neg (by decide), if_neg (by decide), if_neg (by decide), if_neg (by decide), if_neg (by decide), if_neg (by decide), if_pos rfl])
  rw [hr]
  clear hr
  have hblt := h.hb
  have f1 := cell_of_row _ _ 8 _ _ _ h.head
  have f2 := h.soft 8
  have HR1 := Lib.hid (h.start.step (h.start.at_.num (p' := { p with fst := true }) ⟨rfl, rfl, rfl⟩ (w.setCell ⟨b, 8, none⟩ (.bool true)) rfl rfl))
  clear h
  unfold wFast
  cases a with
  | nil =>
    have HSAY2 := Lib.hid (HSAY.out.trans (if_pos rfl))
    clear HSAY
    go_enter Tryd.func33, Tryd.ntmps33
    go_wp2_with (fail)
    go_ret
    exact ⟨_, _, _, _, _, by rw [HSAY2.out]; rfl, HR1.out, fun q hq => by rw [HSAY2.out] at hq; injection hq⟩
  | cons x rr =>
    have HSAY2 := Lib.hid (HSAY.out.trans (if_neg (by simp)))
    have ge : (x :: rr).isEmpty = false := rfl
    generalize x :: rr = a at *
    clear HSAY
    go_enter Tryd.func33, Tryd.ntmps33
    go_wp2_with (fail)
    go_ret
    exact ⟨_, _, _, _, _, by rw [HSAY2.out]; rfl, HR1.out, fun q hq => by rw [HSAY2.out] at hq; cases hq⟩
set_option maxHeartbeats 4000000 in
set_option maxRecDepth 100000 in
theorem says_none (wd a : List UInt8) (h : RdAt S b base A n c inside p wh vl vi vb vm w) (h1 : wd ≠ wIgnore) (h2 : wd ≠ wKeep) (h3 : wd ≠ wBackup) (h4 : wd ≠ wDrop) (h5 : wd ≠ wMerge) (h6 : wd ≠ wPrefer) (h7 : wd ≠ wForce) (h8 : wd ≠ wBatch) (h9 : wd ≠ wFast) :
    Calls Tryd.prog 33 #[.pointer (some ⟨b, 0, none⟩), .string ⟨wd.toArray⟩, .string ⟨a.toArray⟩] w (SaysOut S b base A n c inside wh w (saysP p wd a)) := by
  have hs : saysP p wd a = none := by
    unfold saysP
    rw [if_neg (by rintro (h | h); exact h1 h; exact h2 h), if_neg (by rintro (h | h); exact h3 h; exact h4 h), if_neg h5, if_neg h6, if_neg h7, if_neg h8, if_neg h9]
  have g1 : (wd == [105, 103, 110, 111, 114, 101]) = false := beq_eq_false_iff_ne.2 h1
  have g2 : (wd == [107, 101, 101, 112]) = false := beq_eq_false_iff_ne.2 h2
  have g3 : (wd == [98, 97, 99, 107, 117, 112]) = false := beq_eq_false_iff_ne.2 h3
  have g4 : (wd == [100, 114, 111, 112]) = false := beq_eq_false_iff_ne.2 h4
  have g5 : (wd == [109, 101, 114, 103, 101]) = false := beq_eq_false_iff_ne.2 h5
  have g6 : (wd == [112, 114, 101, 102, 101, 114]) = false := beq_eq_false_iff_ne.2 h6
  have g7 : (wd == [102, 111, 114, 99, 101]) = false := beq_eq_false_iff_ne.2 h7
  have g8 : (wd == [98, 97, 116, 99, 104]) = false := beq_eq_false_iff_ne.2 h8
  have g9 : (wd == [102, 97, 115, 116]) = false := beq_eq_false_iff_ne.2 h9
  rw [hs]
  have HR1 := Lib.hid h.start
  have hblt := h.hb
  clear h1 h2 h3 h4 h5 h6 h7 h8 h9 hs h
  go_enter Tryd.func33, Tryd.ntmps33
  go_wp2_with (fail)
  go_ret
  exact ⟨_, _, _, _, _, rfl, HR1.out, fun q hq => by cases hq⟩
theorem says_any (wd a : List UInt8) (h : RdAt S b base A n c inside p wh vl vi vb vm w) (hT : ∀ W, Below b w W → Tabs W) (hlen : p.ign.length ≤ 100 ∧ p.bak.length ≤ 100 ∧ p.mrg.length ≤ 100) (hbw : base ≤ w.heap.size) (ha : a.length ≤ 4294967280) :
    Calls Tryd.prog 33 #[.pointer (some ⟨b, 0, none⟩), .string ⟨wd.toArray⟩, .string ⟨a.toArray⟩] w (SaysOut S b base A n c inside wh w (saysP p wd a)) := by
  by_cases h1 : wd = wIgnore
  · exact says_ign wd a (.inl h1) h hT hlen.1 hbw
  by_cases h2 : wd = wKeep
  · exact says_ign wd a (.inr h2) h hT hlen.1 hbw
  by_cases h3 : wd = wBackup
  · exact says_bak wd a (.inl h3) h hT hlen.2.1 hbw
  by_cases h4 : wd = wDrop
  · exact says_bak wd a (.inr h4) h hT hlen.2.1 hbw
  by_cases h5 : wd = wMerge
  · subst h5; exact says_mrg a h hT hlen.2.2 hbw ha
  by_cases h6 : wd = wPrefer
  · subst h6; exact says_pre a h
  by_cases h7 : wd = wForce
  · subst h7; exact says_frc a h
  by_cases h8 : wd = wBatch
  · subst h8; exact says_bat a h
  by_cases h9 : wd = wFast
  · subst h9; exact says_fst a h
  exact says_none wd a h h1 h2 h3 h4 h5 h6 h7 h8 h9
end
end Go.Proofs.YtoifnnhbejofjaaDoor
end

/- strings' cutting at one byte. -/
section
namespace Go.Proofs.YtoifnnhbejofjaaDoor
open Go.RowKit Plain

theorem map_strs (l : List ByteArray) : l.map Value.string = strs (l.map (·.data.toList)) := by
  rw [strs, List.map_map]
  apply List.map_congr_left
  intro b _
  simp [strV]

theorem genSplit_cut (s : List UInt8) (c : UInt8) (sv : Nat) (m : Int) (w : World) (hsv : sv ≤ 1) (hs : s.length < 4294967281) (hm : w.cell? ⟨0, 0, none⟩ = some (.int .i64 m)) :
    Calls Tryd.prog 46 #[.string ⟨s.toArray⟩, .string ⟨#[c]⟩, .int .i64 sv, .int .i64 (-1)] w fun e w' =>
      e = .returned (.slice (some ⟨w.heap.size, 0, none⟩) (cutAt c (if sv = 1 then [c] else []) s).length (cutAt c (if sv = 1 then [c] else []) s).length) ∧ w' = w.alloc (.cells (strs (cutAt c (if sv = 1 then [c] else []) s)).toArray 9) := by
  have hc : s.count c ≤ s.length := List.count_le_length
  have hcB : Lib.countB ⟨s.toArray⟩ ⟨#[c]⟩ = s.count c := by
    show Lib.count s [c] = _
    rw [Lib.count_one]
  have hl := cutAt_length c (if sv = 1 then [c] else []) s
  have hsp := splitB_cut c sv hsv (s.count c) s (Nat.le_refl _)
  have h := Tryd.strings_genSplit ⟨s.toArray⟩ ⟨#[c]⟩ sv (-1) (s.count c + 1) m w (by simpa [ByteArray.size] using hs) hm (Nat.le_refl _) hsv (by decide) (by decide) (by rw [hcB, if_pos (by decide)]; simp [ByteArray.size]; omega)
  rw [Nat.add_sub_cancel] at h
  have hlen : (Lib.splitB ⟨#[c]⟩ sv (s.count c) ⟨s.toArray⟩).length = s.count c + 1 := by
    have := congrArg List.length hsp
    rw [List.length_map, hl] at this
    exact this
  rw [hlen] at h
  rw [hl]
  refine h.mono fun e w' ⟨he, hw⟩ => ⟨he, ?_⟩
  rw [hw]
  unfold Lib.cellsOf
  rw [hlen, Nat.sub_self, List.replicate_zero, List.append_nil, map_strs, hsp]
end Go.Proofs.YtoifnnhbejofjaaDoor
end

/- Lists of texts that are handed back; strings.Split at one byte. -/
section
namespace Go.Proofs.YtoifnnhbejofjaaDoor
open Go.RowKit Plain

/-- a []string that reads as l; old memory as it was -/
def StrsOut (w : World) (l : List (List UInt8)) (e : Ending) (w' : World) : Prop := ∃ A c, e = .returned (.slice A l.length c) ∧ l.length ≤ c ∧ c ≤ maxLen ∧ Reads w' 1 A l.length (strs l) ∧ Below w.heap.size w w' ∧ (A = none → c = 0)

theorem of_own0 {w : World} {base : Nat} {e : TypeId} {size n : Nat} {v : Value} {xs : List Value} (h : w.ownsRow base e size v n xs) : ∃ A c, v = .slice A n c ∧ n ≤ c ∧ c ≤ maxLen ∧ Reads w size A n xs ∧ (A = none → c = 0) := by
  obtain ⟨A, c, rfl, h1, h2, h3⟩ := IsSlice.of_own h
  refine ⟨A, c, rfl, h1, h2, h3, fun e => ?_⟩
  subst e
  rcases h.2 with ⟨hv, h0⟩ | ⟨g, cap, cur, hv, _⟩
  · injection hv
  · injection hv with e1
    cases e1

theorem laid_strs (w : World) (l : List (List UInt8)) (e : TypeId) : Reads (w.alloc (.cells (strs l).toArray e)) 1 (some ⟨w.heap.size, 0, none⟩) l.length (strs l) :=
  ⟨by rw [strs_length]; omega, fun _ => ⟨_, rfl, fun j u hj => by
    rw [show (⟨w.heap.size, 0, none⟩ : Addr).add j = ⟨w.heap.size, j, none⟩ by unfold Addr.add; split <;> simp_all, cell_of_row _ _ _ (strs l).toArray e (0, 0) (heap_alloc_new w _)]
    simpa using hj⟩⟩
theorem info_string : (Tryd.prog.info? 9).map (fun i => (i.zero, i.size, i.bytes)) = some (some (.string ByteArray.empty), 1, 16) := by kernel_rfl

theorem strSplit_any (s : List UInt8) (c : UInt8) (m : Int) (w : World) (hs : s.length < 4294967281) (hm : w.cell? ⟨0, 0, none⟩ = some (.int .i64 m)) :
    Calls Tryd.prog 30 #[.string ⟨s.toArray⟩, .string ⟨#[c]⟩] w (StrsOut w (cutAt c [] s)) := by
  have hg := genSplit_cut s c 0 m w (by omega) hs hm
  rw [if_neg (by decide)] at hg
  have hlen := cutAt_length c [] s
  have hcc : s.count c ≤ s.length := List.count_le_length
  have hle : (cutAt c [] s).length ≤ maxLen := by unfold maxLen; omega
  have hr := laid_strs w (cutAt c [] s) 9
  generalize cutAt c [] s = l at *
  have HG := Lib.hid hg
  have HR := Lib.hid hr
  clear hg hm hr hlen
  go_enter Tryd.func30, Tryd.ntmps30
  go_wp2_with (fail)
  refine HG.out.mono ?_
  rintro e w1 ⟨rfl, rfl⟩
  go_wp2_with (fail)
  go_ret
  exact ⟨_, _, rfl, Nat.le_refl _, hle, HR.out, (Below.refl _ _).alloc (Nat.le_refl _) _, fun e => by cases e⟩
end Go.Proofs.YtoifnnhbejofjaaDoor
end

/- strings.ContainsAny for '/' and the byte 0. -/
section
namespace Go.Proofs.YtoifnnhbejofjaaDoor
open Go.RowKit Plain

theorem IndexByte_none (s : ByteArray) (c : UInt8) (w : World) (hs : s.data.toList = []) :
    Calls Tryd.prog 84 #[.string s, .int .u8 (c.toNat : Int)] w (Ret w (.int .i64 (-1))) :=
  (Tryd.strings_IndexByte s (c.toNat : Int) w).mono fun e w' ⟨he, hw⟩ => ⟨by rw [he, hs]; rfl, hw ▸ Below.refl _ _⟩

set_option maxHeartbeats 2000000 in
set_option maxRecDepth 100000 in
theorem IndexRune_hi (r : Int) (w : World) (h0 : 128 ≤ r) (hr : r ≤ 1114111) (hne : r ≠ 65533) (hv : Utf8.valid r = true) :
    Calls Tryd.prog 70 #[.string ⟨#[47, 0]⟩, .int .i32 r] w (Ret w (.int .i64 (-1))) := by
  obtain ⟨hs2, hs4, hlast⟩ := encode_facts r hv h0
  have hvr : Lib.validRune r = true := by
    unfold Utf8.valid at hv
    unfold Lib.validRune
    simp at hv ⊢
    omega
  have HV := Lib.hid (Tryd.utf8_ValidRune r w)
  rw [hvr] at HV
  have hd : ((r : Int) == 65533) = false := by simpa using hne
  have hlast' := hlast (by omega)
  have hd2 : decide (r < 128) = false := by simp; omega
  clear hne hvr
  have g2 : (2 : Int) ≤ (Utf8.encode r).size := by omega
  have g4 : ((Utf8.encode r).size : Int) ≤ 4 := by omega
  by_cases h2 : (Utf8.encode r).size = 2
  · have h1 : 1 < (Utf8.encode r).size := by omega
    obtain ⟨x, hx⟩ : ∃ x, (Utf8.encode r)[1]'h1 = x := ⟨_, rfl⟩
    have hl : 128 ≤ x.toNat := by rw [← hx]; simpa [h2] using hlast'
    have x1 : ((x.toNat : Int) != 0) = true := by simp; omega
    have x2 : ((0 : Int) != x.toNat) = true := by simp; omega
    clear hlast hlast' hl hs2 hs4
    go_enter Tryd.func70, Tryd.ntmps70
    go_wp2_with (fail)
    refine HV.out.mono ?_
    rintro e w1 ⟨rfl, rfl⟩
    go_wp2_with (fail)
    go_step3
    go_wp2_with (fail)
    go_loopw [9] (fun t9 W => t9 = .int .i64 1 ∧ W = w1) (fun _ _ => 0)
    case atStart => exact ⟨rfl, rfl⟩
    case round =>
      obtain ⟨rfl, rfl⟩ := hrel
      go_wp2_with (fail)
      go_step3
      go_wp2_with (fail)
      refine wp_region_below (by kernel_rfl) (by kernel_rfl) ?_
      repeat (go_big_quiet_step (fail))
      refine wpQuiet_nil ?_
      intro W2 hW2
      go_wp2_with (fail)
      have e2 : IntKind.i64.wrap 2 = 2 := by decide
      refine wp_region_below (by kernel_rfl) (by kernel_rfl) ?_
      repeat (go_big_quiet_step ((intro hW; go_at_call 84; exact Ret.quiet hW (IndexByte_none _ _ _ rfl))))
      refine wpQuiet_nil ?_
      intro W3 hW3
      go_wp2_with (fail)
      rw [Exit.noGoto_ret]
      go_wp2_with (fail)
      rw [Exit.noGoto_ret]
      go_ret
      exact ⟨rfl, hW2.trans (hW3.mono hW2.size)⟩
  · have h3 : (2 : Int) ≤ ((Utf8.encode r).size : Int) - 1 := by omega
    clear hlast hlast' h2
    go_enter Tryd.func70, Tryd.ntmps70
    go_wp2_with (fail)
    refine HV.out.mono ?_
    rintro e w1 ⟨rfl, rfl⟩
    go_wp2_with (fail)
    go_step3
    go_wp2_with (fail)
    go_loopw [9] (fun t9 W => t9 = .int .i64 (((Utf8.encode r).size : Int) - 1) ∧ W = w1) (fun _ _ => 0)
    case atStart => exact ⟨rfl, rfl⟩
    case round =>
      obtain ⟨rfl, rfl⟩ := hrel
      go_wp2_with (fail)
      rw [Exit.noGoto_ret]
      go_ret
      exact ⟨rfl, Below.refl _ _⟩

set_option maxHeartbeats 2000000 in
set_option maxRecDepth 100000 in
theorem IndexRune_fffd (w : World) :
    Calls Tryd.prog 70 #[.string ⟨#[47, 0]⟩, .int .i32 65533] w (Ret w (.int .i64 (-1))) := by
  go_enter Tryd.func70, Tryd.ntmps70
  go_wp2_with (fail)
  go_loopw [5, 6] (fun t5 t6 W => ∃ i : Nat, i ≤ 2 ∧ W = w.iter ⟨#[47, 0]⟩ i) (fun _ _ W => 2 - W.iterPos w.heap.size)
  case atStart => exact ⟨0, by omega, rfl⟩
  case round =>
    obtain ⟨i, hi, rfl⟩ := hrel
    have : i = 0 ∨ i = 1 ∨ i = 2 := by omega
    rcases this with rfl | rfl | rfl
    · have hnx := fun ty => run_next_any (P := Tryd.prog) w ⟨#[47, 0]⟩ 0 ty (by decide)
      rw [show Utf8.decode ⟨#[47, 0]⟩ 0 = (47, 1) by decide +kernel] at hnx
      go_wp2_with (fail)
      go_roundw
      case rel => exact ⟨1, by omega, rfl⟩
      case measure => simp
    · have hnx := fun ty => run_next_any (P := Tryd.prog) w ⟨#[47, 0]⟩ 1 ty (by decide)
      rw [show Utf8.decode ⟨#[47, 0]⟩ 1 = (0, 1) by decide +kernel] at hnx
      go_wp2_with (fail)
      go_roundw
      case rel => exact ⟨2, by omega, rfl⟩
      case measure => simp
    · have hnx := fun ty => run_next_end (P := Tryd.prog) w ⟨#[47, 0]⟩ 2 ty (by decide)
      go_wp2_with (fail)
      go_ret
      exact ⟨rfl, (Below.refl _ _).alloc (Nat.le_refl _) _⟩

/-- some byte of a text is '/' or 0 -/
def anyM (l : List UInt8) : Bool := l.contains 47 || l.contains 0
def IdxOut (w : World) (l : List UInt8) (e : Ending) (w' : World) : Prop := ∃ x : Int, e = .returned (.int .i64 x) ∧ decide (0 ≤ x) = anyM l ∧ Below w.heap.size w w'

theorem IndexRune_lo (x : UInt8) (w : World) (h : x.toNat < 128) :
    Calls Tryd.prog 70 #[.string ⟨#[47, 0]⟩, .int .i32 (x.toNat : Int)] w (Ret w (.int .i64 (Lib.indexByte [47, 0] x))) :=
  (Tryd.strings_IndexRune_ascii ⟨#[47, 0]⟩ (x.toNat : Int) w (by omega) (by omega)).mono fun e w' ⟨he, hw⟩ => ⟨by rw [he]; simp, hw ▸ Below.refl _ _⟩
theorem idx_lo (x : UInt8) : Lib.indexByte [47, 0] x = if x = 47 then 0 else if x = 0 then 1 else -1 := by
  by_cases h : x = 47
  · subst h; rfl
  · by_cases h2 : x = 0
    · subst h2; rfl
    · simp [Lib.indexByte, h, h2, Ne.symm h, Ne.symm h2]

theorem anyM_none {l : List UInt8} (h : ∀ j, j < l.length → l.getD j 0 ≠ 47 ∧ l.getD j 0 ≠ 0) : anyM l = false := by
  unfold anyM
  rw [Bool.or_eq_false_iff]
  constructor
  · rw [← Bool.not_eq_true, List.contains_iff_mem]
    intro hm
    obtain ⟨j, hj, e⟩ := List.mem_iff_getElem.1 hm
    exact (h j hj).1 (by simp [List.getD, hj, e])
  · rw [← Bool.not_eq_true, List.contains_iff_mem]
    intro hm
    obtain ⟨j, hj, e⟩ := List.mem_iff_getElem.1 hm
    exact (h j hj).2 (by simp [List.getD, hj, e])
theorem anyM_some {l : List UInt8} {i : Nat} (hi : i < l.length) (h : l.getD i 0 = 47 ∨ l.getD i 0 = 0) : anyM l = true := by
  have hg : l.getD i 0 = l[i] := by simp [List.getD, hi]
  rw [hg] at h
  have hm := List.getElem_mem hi
  unfold anyM
  rcases h with h | h <;> rw [h] at hm <;> simp [hm]

set_option maxHeartbeats 1000000 in
set_option maxRecDepth 100000 in
theorem IndexAny_short (l : List UInt8) (w : World) (h8 : l.length ≤ 8) :
    Calls Tryd.prog 47 #[.string ⟨l.toArray⟩, .string ⟨#[47, 0]⟩] w (IdxOut w l) := by
  have hS := fun W => Tryd.strings_shouldUseASCIISet (l.length : Int) W
  rw [decide_eq_false (show ¬ (8 : Int) < l.length by omega)] at hS
  have HS := Lib.hid hS
  clear hS
  have hsz : (ByteArray.mk l.toArray).size = l.length := by simp [ByteArray.size]
  go_enter Tryd.func47, Tryd.ntmps47
  go_wp2_with (fail)
  refine (HS.out _).mono ?_
  rintro e w1 ⟨rfl, rfl⟩
  go_wp2_with (fail)
  go_loopw [9, 10] (fun _ _ W => ∃ i : Nat, i ≤ l.length ∧ Hid (∀ j, j < i → l.getD j 0 ≠ 47 ∧ l.getD j 0 ≠ 0) ∧ Hid (W.heap[w1.heap.size]? = some (.stringIter ⟨l.toArray⟩ i)) ∧ Hid (Below w1.heap.size w1 W)) (fun _ _ W => l.length - W.iterPos w1.heap.size)
  case atStart => exact ⟨0, by omega, Lib.hid (fun j h => by omega), Lib.hid (World.iter_heap _ _ _), Lib.hid ((Below.refl _ _).alloc (Nat.le_refl _) _)⟩
  case round =>
    obtain ⟨i, hi, HN, HI, HB⟩ := hrel
    have hk := HI.out
    have hpos : wr.iterPos w1.heap.size = i := by unfold World.iterPos; rw [hk]
    have HP := Lib.hid hpos
    clear hpos
    by_cases hlt : i < l.length
    · have hsz' : i < (ByteArray.mk l.toArray).size := by omega
      by_cases hb : (l.getD i 0).toNat < 128
      · have hnx := fun ty => Lib.run_next_any_at (P := Tryd.prog) wr w1.heap.size ⟨l.toArray⟩ i ty hk hsz'
        rw [dec_lo l i hb] at hnx
        have HS1 := Lib.hid (@anyM_some l i hlt)
        have hik := Lib.iterAt_heap wr w1.heap.size ⟨l.toArray⟩ i (i + 1) hk
        have hib := Lib.below_iterAt HB.out (Nat.le_refl _) ⟨l.toArray⟩ (i + 1)
        have his := Lib.iterAt_size wr w1.heap.size ⟨l.toArray⟩ (i + 1)
        generalize hx : l.getD i 0 = x at *
        have HX := Lib.hid hx
        have HIK := Lib.hid hik
        have HIB := Lib.hid hib
        have HC := Lib.hid (IndexRune_lo x (wr.iterAt w1.heap.size ⟨l.toArray⟩ (i + 1)) hb)
        rw [idx_lo] at HC
        clear hx hik hib hsz hk
        by_cases h1 : x = 47
        · rw [if_pos h1] at HC
          have H1 := Lib.hid h1
          clear h1
          go_wp2_with (fail)
          refine HC.out.mono ?_
          rintro e w2 ⟨rfl, hw2⟩
          go_wp2_with (fail)
          go_ret
          exact ⟨i, rfl, by rw [HS1.out (.inl H1.out)]; simp, HIB.out.trans (hw2.mono HIB.out.size)⟩
        by_cases h2 : x = 0
        · rw [if_neg h1, if_pos h2] at HC
          have H2 := Lib.hid h2
          clear h1 h2
          go_wp2_with (fail)
          refine HC.out.mono ?_
          rintro e w2 ⟨rfl, hw2⟩
          go_wp2_with (fail)
          go_ret
          exact ⟨i, rfl, by rw [HS1.out (.inr H2.out)]; simp, HIB.out.trans (hw2.mono HIB.out.size)⟩
        · rw [if_neg h1, if_neg h2] at HC
          have H12 := Lib.hid (And.intro h1 h2)
          clear h1 h2
          go_wp2_with (fail)
          refine HC.out.mono ?_
          rintro e w2 ⟨rfl, hw2⟩
          have hk2 := (hw2.block w1.heap.size (by have := (Array.getElem?_eq_some_iff.1 HI.out).1; rw [his]; exact this)).trans HIK.out
          have HK2 := Lib.hid hk2
          have HB2 := Lib.hid (HIB.out.trans (hw2.mono HIB.out.size))
          clear hk2 hw2
          go_wp2_with (fail)
          go_roundw
          case rel => exact ⟨i + 1, by omega, Lib.hid (fun j hj => by
            by_cases e : j = i
            · rw [e, HX.out]; exact H12.out
            · exact HN.out j (by omega)), HK2, HB2⟩
          case measure =>
            have : w2.iterPos w1.heap.size = i + 1 := by unfold World.iterPos; rw [HK2.out]
            rw [HP.out, this]; omega
      · obtain ⟨q1, q2, q3, q4, q5, q6⟩ := dec_hi l i hlt (by omega)
        have hnx := fun ty => Lib.run_next_any_at (P := Tryd.prog) wr w1.heap.size ⟨l.toArray⟩ i ty hk hsz'
        generalize Utf8.decode ⟨l.toArray⟩ i = d at *
        obtain ⟨r, m⟩ := d
        simp only at q1 q2 q3 q4 q5 q6 hnx
        have HIK := Lib.hid (Lib.iterAt_heap wr w1.heap.size ⟨l.toArray⟩ i (i + m) hk)
        have HIB := Lib.hid (Lib.below_iterAt HB.out (Nat.le_refl _) ⟨l.toArray⟩ (i + m))
        have his := Lib.iterAt_size wr w1.heap.size ⟨l.toArray⟩ (i + m)
        have HC : Hid (Calls Tryd.prog 70 #[.string ⟨#[47, 0]⟩, .int .i32 (r : Int)] (wr.iterAt w1.heap.size ⟨l.toArray⟩ (i + m)) (Ret (wr.iterAt w1.heap.size ⟨l.toArray⟩ (i + m)) (.int .i64 (-1)))) := by
          by_cases e : r = 65533
          · subst e; exact Lib.hid (IndexRune_fffd _)
          · exact Lib.hid (IndexRune_hi r _ (by omega) (by omega) (by omega) q3)
        have Q6 := Lib.hid q6
        clear q6 q3 hsz hk hb
        go_wp2_with (fail)
        refine HC.out.mono ?_
        rintro e w2 ⟨rfl, hw2⟩
        have hk2 := (hw2.block w1.heap.size (by have := (Array.getElem?_eq_some_iff.1 HI.out).1; rw [his]; exact this)).trans HIK.out
        have HK2 := Lib.hid hk2
        have HB2 := Lib.hid (HIB.out.trans (hw2.mono HIB.out.size))
        clear hk2 hw2
        go_wp2_with (fail)
        go_roundw
        case rel => exact ⟨i + m, by omega, Lib.hid (fun j hj => by
          by_cases e : j < i
          · exact HN.out j e
          · have := Q6.out j (by omega) hj
            exact ⟨fun e => by rw [e] at this; simp at this, fun e => by rw [e] at this; simp at this⟩), HK2, HB2⟩
        case measure =>
          have : w2.iterPos w1.heap.size = i + m := by unfold World.iterPos; rw [HK2.out]
          rw [HP.out, this]; omega
    · have hnx := fun ty => Lib.run_next_end_at (P := Tryd.prog) wr w1.heap.size ⟨l.toArray⟩ i ty hk (by omega)
      have HF := Lib.hid (anyM_none (l := l) (fun j hj => HN.out j (by omega)))
      clear hk hsz
      go_wp2_with (fail)
      go_ret
      exact ⟨-1, rfl, by rw [HF.out]; rfl, HB.out⟩
theorem indexAny_anyM (l : List UInt8) : decide (0 ≤ Lib.indexAny l [47, 0]) = anyM l := by
  induction l with
  | nil => rfl
  | cons b l ih =>
    have hge := Lib.indexAny_ge [47, 0] l
    have e : anyM (b :: l) = (b == 47 || b == 0 || anyM l) := by
      unfold anyM
      simp only [List.contains_cons]
      rw [show ((47 : UInt8) == b) = (b == 47) by rw [Bool.eq_iff_iff]; simp only [beq_iff_eq]; exact eq_comm, show ((0 : UInt8) == b) = (b == 0) by rw [Bool.eq_iff_iff]; simp only [beq_iff_eq]; exact eq_comm]
      cases (b == 47) <;> cases (b == 0) <;> cases l.contains 47 <;> cases l.contains 0 <;> rfl
    rw [e, ← ih]
    have hu : Lib.indexAny (b :: l) [47, 0] = if [47, 0].contains b then 0 else if Lib.indexAny l [47, 0] == -1 then -1 else Lib.indexAny l [47, 0] + 1 := rfl
    rw [hu]
    clear hu
    generalize Lib.indexAny l [47, 0] = x at *
    by_cases h1 : b = 47
    · subst h1; rfl
    · by_cases h2 : b = 0
      · subst h2; rfl
      · have h3 : [47, 0].contains b = false := by simp [h1, h2]
        have h4 : (b == 47) = false := by simpa using h1
        have h5 : (b == 0) = false := by simpa using h2
        rw [h3, h4, h5, Bool.or_self, Bool.false_or, if_neg (by decide)]
        by_cases h6 : x = -1
        · subst h6; rfl
        · rw [if_neg (by simpa using h6), decide_eq_true (by omega), decide_eq_true (by omega)]
theorem IndexAny_any (l : List UInt8) (w : World) (hl : l.length ≤ 4294967280) :
    Calls Tryd.prog 47 #[.string ⟨l.toArray⟩, .string ⟨#[47, 0]⟩] w (IdxOut w l) := by
  by_cases h8 : l.length ≤ 8
  · exact IndexAny_short l w h8
  · have hsz : (ByteArray.mk l.toArray).size = l.length := by simp [ByteArray.size]
    have h116 : (Tryd.prog.info? 102).map (fun i => (i.zero, i.size)) = some (some (.agg (Array.replicate 256 (.bool false))), 256) := by kernel_rfl
    refine (Tryd.strings_IndexAny_long (zero_of_info h116).1 ⟨l.toArray⟩ ⟨#[47, 0]⟩ w (by decide) (by omega) (by omega) (by decide) (fun j b hb => ?_)).mono ?_
    · match j, hb with
      | 0, hb => simp at hb; subst hb; decide
      | 1, hb => simp at hb; subst hb; decide
      | j + 2, hb => simp at hb
    · rintro e w' ⟨rfl, rfl⟩
      exact ⟨_, rfl, indexAny_anyM l, ((Below.refl _ _).alloc (Nat.le_refl _) _).alloc (by simp) _⟩
end Go.Proofs.YtoifnnhbejofjaaDoor
end

/- name.Name. -/
section
namespace Go.Proofs.YtoifnnhbejofjaaDoor
open Go.RowKit Plain

theorem nameOK_any (s : List UInt8) : nameOK s = (!s.isEmpty && decide (s.length ≤ 64) && !(s == [46]) && !(s == [46, 46]) && Lib.validD s && !anyM s) := by
  unfold nameOK anyM
  rw [Bool.not_or, ← Bool.and_assoc]

end Go.Proofs.YtoifnnhbejofjaaDoor
end

/- strings.SplitSeq at '/': the iterator's walk. -/
section
namespace Go.Proofs.YtoifnnhbejofjaaDoor
open Go.RowKit Go.Shelf Plain
attribute [local go_sem] Oper.semAt_some

theorem ib_none {c : UInt8} {l : List UInt8} (h : c ∉ l) : Lib.indexByte l c = -1 := by
  induction l with
  | nil => rfl
  | cons b l ih =>
    simp only [List.mem_cons, not_or] at h
    unfold Lib.indexByte
    rw [if_neg (by simpa using fun e => h.1 e.symm), ih h.2]; rfl
theorem ib_first {c : UInt8} (p r : List UInt8) (h : c ∉ p) : Lib.indexByte (p ++ c :: r) c = p.length := by
  induction p with
  | nil => simp [Lib.indexByte]
  | cons b p ih =>
    simp only [List.mem_cons, not_or] at h
    rw [List.cons_append]
    unfold Lib.indexByte
    rw [if_neg (by simpa using fun e => h.1 e.symm), ih h.2, if_neg (by simp)]
    simp
def strLen (W : World) (b : Nat) : Nat := match W.cell? ⟨b, 0, none⟩ with | some (.string s) => s.size | _ => 0


end Go.Proofs.YtoifnnhbejofjaaDoor
end
