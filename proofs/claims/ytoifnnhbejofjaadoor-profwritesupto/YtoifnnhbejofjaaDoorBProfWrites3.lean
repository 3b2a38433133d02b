/- Texts joined: ProfW1. -/
import Derived.Test.YtoifnnhbejofjaaDoorBProfBaseA9
import Derived.Test.YtoifnnhbejofjaaDoorBProfWrites1
import Derived.Test.YtoifnnhbejofjaaDoorBProfWrites2
set_option linter.unusedSimpArgs false
set_option linter.unusedVariables false

/- The document's plain, a side's line, lines of rules. -/
section
set_option linter.unusedVariables false
namespace Go.Proofs.YtoifnnhbejofjaaDoor
open Go.RowKit Plain

set_option maxHeartbeats 4000000 in
set_option maxRecDepth 100000 in
theorem rplain_any (s : List UInt8) (w : World) (hs : s.length ≤ 9223372036854775806) : Calls Tryd.prog 27 #[.string ⟨s.toArray⟩] w (Ret w (.bool (plainS s))) := by
  have HC := Lib.hid (fun W => Check_ref s W)
  have HTR := Lib.hid (fun W => trimmed_any s W (by omega))
  have hps : plainS s = (decide ((checkP 400 s).2 = 0) && !s.contains 10 && decide (trimP s = s)) := rfl
  generalize plainS s = out at *
  generalize (checkP 400 s).1 = c1 at *
  generalize (checkP 400 s).2 = c2 at *
  have HP := Lib.hid hps
  clear hps
  go_enter Tryd.func27, Tryd.ntmps27
  go_wp2_with (fail)
  refine (HC.out _).mono ?_
  rintro e w1 ⟨rfl, hw1⟩
  have HB1 := Lib.hid hw1
  clear hw1
  go_wp2_with (fail)
  go_loopw [5] (fun t5 W => ∃ i : Nat, i ≤ s.length ∧ t5 = .int .i64 i ∧ Hid (Below w.heap.size w W) ∧ Hid (∀ j, ∀ h : j < s.length, j < i → s[j] ≠ 10)) (fun t5 _ => s.length - (intOf t5).toNat)
  case atStart => exact ⟨0, by omega, rfl, HB1, Lib.hid (fun j h hj => by omega)⟩
  case round =>
    obtain ⟨i, hi, rfl, HB, HN⟩ := hrel
    have i0 : (0 : Int) ≤ (i : Int) := by omega
    by_cases hlt : i < s.length
    · have i1 : (i : Int) < s.length := by omega
      have e1 : IntKind.i64.wrap ((i : Int) + 1) = (i : Int) + 1 := IntWalk.i64_in _ (by omega)
      by_cases h10 : s[i] = 10
      · have g10 : ((s[i].toNat : Int) == 10) = true := by rw [h10]; rfl
        have HO : Hid (out = false) := Lib.hid (by
          have : s.contains 10 = true := by rw [List.contains_iff_mem, ← h10]; exact List.getElem_mem hlt
          rw [HP.out, this]; simp)
        clear h10 HN HP
        generalize hx : s[i] = x at *
        go_wp2_with (fail)
        go_ret
        exact ⟨by rw [HO.out]; rfl, HB.out⟩
      · have g10 : ((s[i].toNat : Int) == 10) = false := by
          rw [beq_eq_false_iff_ne]; intro e; exact h10 (UInt8.toNat_inj.1 (by simp; omega))
        have HN2 : Hid (∀ j, ∀ h : j < s.length, j < i + 1 → s[j] ≠ 10) := Lib.hid (fun j h hj => by
          by_cases e : j = i
          · subst e; exact h10
          · exact HN.out j h (by omega))
        clear h10 HN HP
        generalize hx : s[i] = x at *
        go_wp2_with (fail)
        go_roundw
        case rel => exact ⟨i + 1, by omega, by go_num, HB, HN2⟩
        case measure => simp [intOf]; omega
    · obtain rfl : i = s.length := by omega
      have i1 : decide ((s.length : Int) < (s.length : Int)) = false := by rw [decide_eq_false_iff_not]; omega
      have hno : s.contains 10 = false := by
        rw [← Bool.not_eq_true, List.contains_iff_mem]
        intro hm
        obtain ⟨j, hj, e⟩ := List.getElem_of_mem hm
        exact HN.out j hj hj e
      have hout := HP.out
      rw [hno] at hout
      clear HP HN hno
      by_cases hc : c2 = 0
      · subst hc
        have HO : Hid (out = decide (trimP s = s)) := Lib.hid (by rw [hout]; simp)
        clear hout
        obtain ⟨ts, hts⟩ : ∃ t, trimP s = t := ⟨_, rfl⟩
        rw [hts] at HTR HO
        clear hts
        go_wp2_with (fail)
        refine (HTR.out _).mono ?_
        rintro e w2 ⟨rfl, hw2⟩
        have HB2 := Lib.hid (HB.out.trans (hw2.mono HB.out.size))
        clear hw2
        go_wp2_with (fail)
        go_ret
        exact ⟨by rw [HO.out, show decide (ts = s) = (ts == s) by rw [Bool.eq_iff_iff, decide_eq_true_eq, beq_iff_eq]]; rfl, HB2.out⟩
      · have HO : Hid (out = false) := Lib.hid (by rw [hout]; simp [hc])
        have g2 : ((c2 : Int) == 0) = false := by rw [beq_eq_false_iff_ne]; omega
        clear hout hc
        go_wp2_with (fail)
        go_ret
        exact ⟨by rw [HO.out]; rfl, HB.out⟩

theorem rsided_any (wd : List UInt8) (n : Int) (w : World) (hw : wd.length ≤ 100) : Calls Tryd.prog 24 #[.string ⟨wd.toArray⟩, .int .i64 n] w (Ret w (.tuple #[.string ⟨(sidedL wd n).toArray⟩, .bool (okNat n)])) := by
  by_cases h0 : n = 0
  · subst h0
    go_enter Tryd.func24, Tryd.ntmps24
    go_wp2_with (fail)
    go_ret2
    exact ⟨rfl, Below.refl _ _⟩
  · by_cases h1 : n = 1
    · subst h1
      go_enter Tryd.func24, Tryd.ntmps24
      go_wp2_with (fail)
      go_ret2
      exact ⟨rfl, Below.refl _ _⟩
    · by_cases h2 : n = 2
      · subst h2
        go_enter Tryd.func24, Tryd.ntmps24
        go_wp2_with (fail)
        go_ret2
        exact ⟨rfl, Below.refl _ _⟩
      · have g0 : (n == 0) = false := by rw [beq_eq_false_iff_ne]; exact h0
        have g1 : (n == 1) = false := by rw [beq_eq_false_iff_ne]; exact h1
        have g2 : (n == 2) = false := by rw [beq_eq_false_iff_ne]; exact h2
        have e1 : sidedL wd n = [] := by unfold sidedL; rw [if_neg h1, if_neg h2]
        have e2 : okNat n = false := by unfold okNat; simp [h0, h1, h2]
        rw [e1, e2]
        go_enter Tryd.func24, Tryd.ntmps24
        go_wp2_with (fail)
        go_ret2
        exact ⟨rfl, Below.refl _ _⟩

/-- The document's text of rules. -/
def rrulesP (yes no : List UInt8) (l : List Rule) : List UInt8 × Bool := if l.all (fun r => plainS r.pat) = true then (rulesL yes no l, decide (l.length ≤ 100)) else ([], false)
theorem ruleL_cells (yes no : List UInt8) (r : Rule) : ruleL yes no r = (if r.ign then yes else no) ++ [32] ++ r.pat ++ [10] := rfl

set_option maxHeartbeats 8000000 in
set_option maxRecDepth 100000 in
theorem rrules_any (yes no : List UInt8) (l : List Rule) (A : Option Addr) (c : Nat) (w : World) (hR : IsRows w 2 A (l.map rulV)) (hy : yes.length ≤ 100) (hn : no.length ≤ 100) (hl : l.length ≤ 1048576) (hp : ∀ r ∈ l, r.pat.length ≤ 1048576) :
    Calls Tryd.prog 25 #[.slice A l.length c, .string ⟨yes.toArray⟩, .string ⟨no.toArray⟩] w (Ret w (.tuple #[.string ⟨(rrulesP yes no l).1.toArray⟩, .bool (rrulesP yes no l).2])) := by
  have HRW := Lib.hid (fun W (hW : Below w.heap.size w W) => hR.below hW)
  have HPL := Lib.hid hp
  clear hR hp
  go_enter Tryd.func25, Tryd.ntmps25
  go_wp2_with (fail)
  go_loopw [8, 9] (fun t8 t9 W => ∃ i : Nat, i ≤ l.length ∧ t9 = .int .i64 i ∧ t8 = .string ⟨(rulesL yes no (l.take i)).toArray⟩ ∧ (rulesL yes no (l.take i)).length ≤ i * 1048678 ∧ Hid (Below w.heap.size w W) ∧ Hid (∀ r ∈ l.take i, plainS r.pat = true)) (fun _ t9 _ => l.length - (intOf t9).toNat)
  case atStart => exact ⟨0, by omega, rfl, rfl, by simp [rulesL], Lib.hid (Below.refl _ _), Lib.hid (fun r hr => by simp at hr)⟩
  case round =>
    obtain ⟨i, hi, rfl, rfl, hlen, HB, HN⟩ := hrel
    have i0 : (0 : Int) ≤ (i : Int) := by omega
    by_cases hlt : i < l.length
    · have i1 : (i : Int) < l.length := by omega
      have e1 : IntKind.i64.wrap ((i : Int) + 1) = (i : Int) + 1 := IntWalk.i64_in _ (by omega)
      have htk := List.take_succ_eq_append_getElem hlt
      have hmem := List.getElem_mem hlt
      have hpl := HPL.out _ hmem
      obtain ⟨ad, rfl, x0, x1⟩ := pair_cells (HRW.out _ HB.out) hlt (u := .bool l[i].ign) (v := .string ⟨l[i].pat.toArray⟩) rfl
      have hnx : plainS l[i].pat = true → ∀ r ∈ l.take (i + 1), plainS r.pat = true := fun h r hr => by
        rw [htk, List.mem_append] at hr
        rcases hr with hr | hr
        · exact HN.out r hr
        · rw [List.mem_singleton] at hr; subst hr; exact h
      have hfl : plainS l[i].pat = false → rrulesP yes no l = ([], false) := fun h => by
        unfold rrulesP
        rw [if_neg]
        intro hall
        have := List.all_eq_true.1 hall _ hmem
        rw [h] at this; cases this
      have hrl : rulesL yes no (l.take (i + 1)) = rulesL yes no (l.take i) ++ ((if l[i].ign then yes else no) ++ [32] ++ l[i].pat ++ [10]) := by
        rw [htk]; unfold rulesL; rw [List.flatMap_append, List.flatMap_singleton]; rfl
      have HPA := Lib.hid (fun W => rplain_any l[i].pat W (by omega))
      have HNX := Lib.hid hnx
      have HFL := Lib.hid hfl
      have HRL := Lib.hid hrl
      clear hmem htk hnx hfl hrl
      generalize l[i] = r at *
      obtain ⟨pt, ig⟩ := r
      simp only at x0 x1 hpl HPA HNX HFL HRL
      obtain ⟨pl, hpl2⟩ : ∃ b, plainS pt = b := ⟨_, rfl⟩
      rw [hpl2] at HPA HNX HFL
      obtain ⟨S, hS⟩ : ∃ S, rulesL yes no (l.take i) = S := ⟨_, rfl⟩
      rw [hS] at HRL hlen ⊢
      clear hpl2 hS HN
      cases pl with
      | false =>
        have HF := Lib.hid (HFL.out rfl)
        rw [HF.out]
        clear HFL HNX HRL HF
        go_wp2_with (fail)
        refine (HPA.out _).mono ?_
        rintro e W2 ⟨rfl, hw2⟩
        have HB2 := Lib.hid (HB.out.trans (hw2.mono HB.out.size))
        clear hw2
        go_wp2_with (fail)
        go_ret2
        exact ⟨rfl, HB2.out⟩
      | true =>
        have HNX2 := Lib.hid (HNX.out rfl)
        clear HFL HNX
        go_wp2_with (fail)
        refine (HPA.out _).mono ?_
        rintro e W2 ⟨rfl, hw2⟩
        have HB2 := Lib.hid (HB.out.trans (hw2.mono HB.out.size))
        have z0 := (hw2.cell (World.block_lt_of_cell? _ _ x0)).trans x0
        have z1 := (hw2.cell (World.block_lt_of_cell? _ _ x1)).trans x1
        clear hw2 x0 x1
        cases ig with
        | false =>
          have hn2 : rulesL yes no (l.take (i + 1)) = S ++ (no ++ 32 :: (pt ++ [10])) := by rw [HRL.out]; simp
          clear HRL
          have HN3 := Lib.hid hn2
          clear hn2
          go_wp2_with (fail)
          go_roundw
          case rel => exact ⟨i + 1, by omega, by go_num, by rw [HN3.out], by rw [HN3.out]; simp; omega, HB2, HNX2⟩
          case measure => simp [intOf]; omega
        | true =>
          have hn2 : rulesL yes no (l.take (i + 1)) = S ++ (yes ++ 32 :: (pt ++ [10])) := by rw [HRL.out]; simp
          clear HRL
          have HN3 := Lib.hid hn2
          clear hn2
          go_wp2_with (fail)
          go_roundw
          case rel => exact ⟨i + 1, by omega, by go_num, by rw [HN3.out], by rw [HN3.out]; simp; omega, HB2, HNX2⟩
          case measure => simp [intOf]; omega
    · obtain rfl : i = l.length := by omega
      have i1 : decide ((l.length : Int) < (l.length : Int)) = false := by rw [decide_eq_false_iff_not]; omega
      rw [List.take_of_length_le (Nat.le_refl _)] at *
      by_cases h100 : l.length ≤ 100
      · have hrr : rrulesP yes no l = (rulesL yes no l, true) := by unfold rrulesP; rw [if_pos (List.all_eq_true.2 HN.out), decide_eq_true h100]
        have HRR := Lib.hid hrr
        have g : (l.length : Int) ≤ 100 := by omega
        clear hrr h100
        go_wp2_with (fail)
        go_ret2
        exact ⟨by rw [HRR.out]; rfl, HB.out⟩
      · have hrr : rrulesP yes no l = (rulesL yes no l, false) := by unfold rrulesP; rw [if_pos (List.all_eq_true.2 HN.out), decide_eq_false h100]
        have HRR := Lib.hid hrr
        have g : ¬ (l.length : Int) ≤ 100 := by omega
        clear hrr h100
        go_wp2_with (fail)
        go_ret2
        exact ⟨by rw [HRR.out]; rfl, HB.out⟩
end Go.Proofs.YtoifnnhbejofjaaDoor
end
