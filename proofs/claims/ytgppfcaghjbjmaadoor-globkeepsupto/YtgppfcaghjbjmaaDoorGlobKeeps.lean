/- hawserlaw02.GlobKeeps: a rule that matches neither a path nor one above it changes nothing for it. The condition: the arguments' bulk is what a machine can hold (Upto). -/
import Derived.Test.YtgppfcaghjbjmaaDoorMore
import Derived.Test.YtgppfcaghjbjmaaDoorNameRefB
import Derived.Test.YtgppfcaghjbjmaaDoorTabs
import Derived.Test.YtgppfcaghjbjmaaDoorCard
import Derived.Test.YtgppfcaghjbjmaaDoorOpen
import Derived.Test.YtgppfcaghjbjmaaDoorClose
import Derived.Test.YtgppfcaghjbjmaaDoorRulesOpen
set_option linter.unusedVariables false
namespace Go.Proofs.YtgppfcaghjbjmaaDoor
open Go.RowKit Plain

set_option maxHeartbeats 1500000 in
set_option maxRecDepth 100000 in
theorem GlobKeeps_any (rules : List Rule) (A : Option Addr) (c : Nat) (s : List UInt8) (ign : Bool) (pat : List UInt8) (m : Int) (w : World) (hL : Laid w m) (hR : RulesAt w A rules) (hlc : rules.length ≤ c) (hlen : rules.length ≤ 1048576) (hs : s.length ≤ 8796093022200) :
    Calls Tryd.prog 6 #[.slice A rules.length c, .string ⟨s.toArray⟩, .agg #[.bool ign, .string ⟨pat.toArray⟩]] w (Ret w (.bool true)) := by
  obtain ⟨i0, hi, hz0, hz1, hz2⟩ := info_parts info_rule
  have HI := Lib.hid hi
  clear hi
  obtain ⟨w1, hw1⟩ : ∃ w1, w.alloc (.cells #[.bool ign, .string ⟨pat.toArray⟩] 30) = w1 := ⟨_, rfl⟩
  have hB01 : Below w.heap.size w w1 := by rw [← hw1]; exact below_alloc1 _ _
  have hs1 : w1.heap.size = w.heap.size + 1 := by rw [← hw1]; simp
  have b0 : w1.cell? ⟨w.heap.size, 0, none⟩ = some (.bool ign) := by rw [← hw1]; simp [go_sem]
  have b1 : w1.cell? ⟨w.heap.size, 1, none⟩ = some (.string ⟨pat.toArray⟩) := by rw [← hw1]; simp [go_sem]
  have HW1 := Lib.hid hw1
  have HL := Lib.hid (fun W (h : Below w1.heap.size w1 W) => hL.below (hB01.trans (h.mono hB01.size)))
  have HR := Lib.hid (fun W (h : Below w1.heap.size w1 W) => hR.below (hB01.trans (h.mono hB01.size)))
  have HBX := Lib.hid (fun W (h : Below w1.heap.size w1 W) => And.intro ((h.cell (p := ⟨w.heap.size, 0, none⟩) (World.block_lt_of_cell? _ _ b0)).trans b0) ((h.cell (p := ⟨w.heap.size, 1, none⟩) (World.block_lt_of_cell? _ _ b1)).trans b1))
  have HB01 := Lib.hid hB01
  have HS1 := Lib.hid hs1
  have HAW := Lib.hid (fun W (h : Below w1.heap.size w1 W) => awake_any m W (HL.out W h))
  have HPR := Lib.hid (fun W => Path_ref s W hs)
  have HIG := Lib.hid (fun (l : List Rule) (B : Option Addr) (d : Nat) W (h : Below w1.heap.size w1 W) (hr : RulesAt W B l) (hl : l.length ≤ 4294967296) => Ignored_any l B d s m W (HL.out W h) hr hl (by omega))
  have HMT := Lib.hid (fun q W (h : Below w1.heap.size w1 W) => Match_all pat q m W (HL.out W h))
  have HPA := Lib.hid (fun (q : List UInt8) W (hq : q.length ≤ s.length) => Parent_ref q W (by omega))
  clear hL hR hB01 hs1 b0 b1 hw1
  go_enter Tryd.func6, Tryd.ntmps6
  go_wp2_with (fail)
  rw [HW1.out]
  refine (HAW.out _ (Below.refl _ _)).mono ?_
  rintro e w2 ⟨rfl, hB2⟩
  by_cases h8 : 8 < rules.length
  · have h8' : decide ((8 : Int) < (rules.length : Int)) = true := by rw [decide_eq_true_eq]; omega
    go_wp2_with (fail)
    go_ret
    exact ⟨rfl, HB01.out.trans (hB2.mono HB01.out.size)⟩
  have h8' : decide ((8 : Int) < (rules.length : Int)) = false := by rw [decide_eq_false_iff_not]; omega
  cases hok : pathOK s with
  | false =>
    have hp := HPR.out w2
    rw [hok] at hp
    have HP := Lib.hid hp
    clear hp hok
    go_wp2_with (fail)
    refine HP.out.mono ?_
    rintro e w3 ⟨rfl, hw3⟩
    go_wp2_with (fail)
    go_ret
    exact ⟨rfl, (HB01.out.trans (hB2.mono HB01.out.size)).trans (hw3.mono (HB01.out.trans (hB2.mono HB01.out.size)).size)⟩
  | true =>
    have hp := HPR.out w2
    rw [hok] at hp
    have HP := Lib.hid hp
    have HOK := Lib.hid hok
    clear hp hok
    go_wp2_with (fail)
    refine HP.out.mono ?_
    rintro e w3 ⟨rfl, hw3⟩
    have HB3 := Lib.hid (hB2.trans (hw3.mono hB2.size))
    obtain ⟨b0, b1⟩ := HBX.out w3 HB3.out
    clear hw3 hB2
    by_cases h40 : 40 < pat.length
    · have h40' : decide ((40 : Int) < (pat.length : Int)) = true := by rw [decide_eq_true_eq]; omega
      go_wp2_with (fail)
      go_ret
      exact ⟨rfl, HB01.out.trans (HB3.out.mono HB01.out.size)⟩
    have h40' : decide ((40 : Int) < (pat.length : Int)) = false := by rw [decide_eq_false_iff_not]; omega
    go_wp2_with (fail)
    clear b0 b1
    go_loopw [29] (fun t29 W => ∃ i : Nat, i ≤ rules.length ∧ t29 = .int .i64 i ∧ W = w3) (fun t29 _ => rules.length - (intOf t29).toNat)
    case atStart => exact ⟨0, by omega, rfl, rfl⟩
    case round =>
      obtain ⟨i, hi, rfl, rfl⟩ := hrel
      have i0' : (0 : Int) ≤ i := by omega
      by_cases hlt : i < rules.length
      · have i1 : (i : Int) < rules.length := by omega
        obtain ⟨ad, rfl, r0, r1⟩ := (HR.out _ HB3.out).at_ hlt
        generalize rules[i] = ru at *
        by_cases hp4 : 40 < ru.pat.length
        · have hp4' : decide ((40 : Int) < (ru.pat.length : Int)) = true := by rw [decide_eq_true_eq]; omega
          go_wp2_with (fail)
          go_ret
          exact ⟨rfl, HB01.out.trans (HB3.out.mono HB01.out.size)⟩
        · have hp4' : decide ((40 : Int) < (ru.pat.length : Int)) = false := by rw [decide_eq_false_iff_not]; omega
          go_wp2_with (fail)
          go_roundw
          case rel => exact ⟨i + 1, by omega, by go_num, by first | trivial | rfl⟩
          case measure => simp [intOf]; omega
      · have i1 : ¬ (i : Int) < rules.length := by omega
        have hIg := HIG.out rules A c wr HB3.out (HR.out _ HB3.out) (by omega)
        generalize hres : ignG rules s = res at *
        have HRES := Lib.hid hres
        have HIg := Lib.hid hIg
        clear hIg hres hlt
        go_wp2_with (fail)
        refine HIg.out.mono ?_
        rintro e w4 ⟨rfl, hw4⟩
        have HB4 := Lib.hid (HB3.out.trans (hw4.mono HB3.out.size))
        have HRD4 := Lib.hid (RulesAt.reads ((HR.out w4 HB4.out).below (below_alloc1 w4 (.cells #[] 30))))
        clear hw4
        go_wp2_with (at_builtin; refine wpList_append_slice rfl _ _ 28 rfl w4.heap.size 30 i0 _ 2 24 Tryd.underlying28 HI.out hz0 hz1 hz2 rfl (by decide) (some ⟨w4.heap.size, 0, none⟩) 0 0 [] rfl (empty_own1 w4 30 2) A rules.length c (rowsE ruleV rules) rfl HRD4.out (rowsE_oneCell ruleV_oneCell rules) ?c3 ?c4 ?c5 ?_)
        case c3 => unfold maxLen; omega
        case c4 => omega
        case c5 => simp
        intro A5 c5 w5 hown5 hg5
        have hb5 : Below w4.heap.size w4 w5 := ((Below.refl _ _).alloc (Nat.le_refl _) _).grown hg5 (by simp) (fun k hk => by
          have hk' : w4.heap.size = k := by injection hk
          omega)
        have HB5 := Lib.hid (HB4.out.trans (hb5.mono HB4.out.size))
        have HO5 := Lib.hid hown5
        have HRD5 := Lib.hid (HR.out w5 HB5.out).reads
        have hz5 := hb5.size
        clear hown5 hg5 hb5
        go_wp2_with (at_builtin; refine wpList_append_slice rfl _ _ 28 rfl w4.heap.size 30 i0 _ 2 24 Tryd.underlying28 HI.out hz0 hz1 hz2 rfl (by decide) A5 rules.length c5 _ rfl HO5.out A rules.length c (rowsE ruleV rules) rfl HRD5.out (rowsE_oneCell ruleV_oneCell rules) ?d3 ?d4 ?d5 ?_)
        case d3 => unfold maxLen; omega
        case d4 => omega
        case d5 => omega
        intro A6 c6 w6 hown6 hg6
        have hb6 : Below w4.heap.size w5 w6 := (Below.refl _ _).grown hg6 hz5 (fun k hk => (HO5.out.lt k hk).1)
        have HB6 := Lib.hid (HB5.out.trans (hb6.mono HB4.out.size))
        have hlen2 : rules.length + rules.length = (rules ++ rules).length := by simp
        rw [← rowsE_append] at hown6
        have HA6 := Lib.hid (RulesAt.of_own hown6 hlen2)
        have hIg2 := HIG.out (rules ++ rules) A6 c6 w6 HB6.out HA6.out (by simp; omega)
        rw [ignG_twice, HRES.out, ← hlen2] at hIg2
        have HIg2 := Lib.hid hIg2
        have hz6 := HB6.out.size
        clear hown6 hg6 hb6 hIg2 hlen2 HO5 HRD5 HRD4
        go_wp2_with (fail)
        refine HIg2.out.mono ?_
        rintro e w7 ⟨rfl, hw7⟩
        have HB7 := Lib.hid (HB6.out.trans (hw7.mono HB6.out.size))
        have hrr : (res != res) = false := by simp
        have HNE := Lib.hid (pathOK_ne HOK.out)
        clear hw7
        go_wp2_with (fail)
        go_loopw [10] (fun t10 W => ∃ q : List UInt8, t10 = .string ⟨q.toArray⟩ ∧ q.length ≤ s.length ∧ Hid ((q = [] → anyUp (matchG pat) s = false) ∧ (q ≠ [] → pathOK q = true ∧ anyUp (matchG pat) s = anyUp (matchG pat) q)) ∧ Hid (Below w1.heap.size w1 W)) (fun t10 _ => strLenG t10)
        case atStart => exact ⟨s, rfl, Nat.le_refl _, Lib.hid ⟨fun e => absurd e HNE.out, fun _ => ⟨HOK.out, rfl⟩⟩, HB7⟩
        case round =>
          clear HB7 HB6 HB5 HB4 HB3 HA6 hz6 hz5
          obtain ⟨q, rfl, hql, HQ, HB⟩ := hrel
          by_cases hq0 : q = []
          · have HU := Lib.hid (HQ.out.1 hq0)
            have HK := Lib.hid ((ignG_keeps (l := rules) (r := ⟨pat, ign⟩) HU.out).trans HRES.out)
            subst hq0
            go_wp2_with (fail)
            have hX0 : Below w1.heap.size w1 wr.drew := HB.out.drew
            refine wp_region_any (by kernel_rfl) ?_
            change wpAny _ _ _ _ (10 + 1) #[false, false, false, false, false, false, false, false, false, false, false] _ wr.drew
            generalize wr.drew = X0 at *
            refine wpAny_take (i := 1) (v := .slice A rules.length c) rfl (by kernel_rfl) (by kernel_rfl) (by kernel_rfl) (fun _ _ _ h => h) (Or.inl ⟨by rfl, ?_⟩) ?_
            · intro w0
              go_simp
            refine wpAny_take (i := 6) (v := .string ⟨s.toArray⟩) rfl (by kernel_rfl) (by kernel_rfl) (by kernel_rfl) (fun _ _ _ h => h) (Or.inl ⟨by rfl, ?_⟩) ?_
            · intro w0
              go_simp
            refine wpAny_take (i := 8) (v := .bool res) rfl (by kernel_rfl) (by kernel_rfl) (by kernel_rfl) (fun _ _ _ h => h) (Or.inl ⟨by rfl, ?_⟩) ?_
            · intro w0
              go_simp
            refine wpAny_ready (rs := [0, 3]) (by kernel_rfl) (by simp) ?_
            refine AllReady.cons rfl (fun K hK => ?_) (AllReady.cons rfl (fun K hK => ?_) AllReady.nil)
            · skip
              go_simp
              refine hK _ _ ?_
              clear hK K
              have hE := own_base1 (empty_own1 X0 30 2) hX0.size
              have hX1 := hX0.alloc hX0.size (Obj.cells #[] 30)
              generalize X0.alloc (Obj.cells #[] 30) = X1 at *
              refine wpAny_ready (rs := [2, 3]) (by kernel_rfl) (by simp) ?_
              refine AllReady.cons rfl (fun K hK => ?_) (AllReady.cons rfl (fun K hK => ?_) AllReady.nil)
              · skip
                have hRD := (HR.out X1 hX1).reads
                simp only [List.getElem_toArray, List.getElem_cons_succ, List.getElem_cons_zero]
                rw [if_pos (by rfl)]
                refine wp_append_slice _ _ 28 rfl w1.heap.size 30 i0 _ 2 24 Tryd.underlying28 HI.out hz0 hz1 hz2 rfl (by decide) (some ⟨X0.heap.size, 0, none⟩) 0 0 [] rfl hE A rules.length c (rowsE ruleV rules) rfl hRD (rowsE_oneCell ruleV_oneCell rules) (by unfold maxLen; omega) (by omega) hX1.size ?_
                intro A5 c5 X2 hE5 hg
                refine hK _ _ ?_
                clear hK K
                have hX2 := hX1.grown hg hX1.size (fun k hk => (hE.lt k hk).1)
                clear hE hg hRD
                simp only [Nat.zero_add, List.nil_append] at hE5 ⊢
                have hE := hE5
                clear hE5
                refine wpAny_ready (rs := [3]) (by kernel_rfl) (by simp) ?_
                refine AllReady.cons rfl (fun K hK => ?_) AllReady.nil
                obtain ⟨b0, b1⟩ := HBX.out X2 hX2
                go_simp
                refine hK _ _ ?_
                clear hK K b0 b1
                refine wpAny_ready (rs := [4]) (by kernel_rfl) (by simp) ?_
                refine AllReady.cons rfl (fun K hK => ?_) AllReady.nil
                go_simp
                refine hK _ _ ?_
                clear hK K
                replace hE := hE.alloc (Obj.cells #[Value.bool ign, Value.string ⟨pat.toArray⟩] 30)
                have hq := heap_alloc_new X2 (Obj.cells #[Value.bool ign, Value.string ⟨pat.toArray⟩] 30)
                have hX3 := hX2.alloc hX2.size (Obj.cells #[Value.bool ign, Value.string ⟨pat.toArray⟩] 30)
                generalize X2.alloc (Obj.cells #[Value.bool ign, Value.string ⟨pat.toArray⟩] 30) = X3 at *
                refine wpAny_ready (rs := [5]) (by kernel_rfl) (by simp) ?_
                refine AllReady.cons rfl (fun K hK => ?_) AllReady.nil
                have hRD := reads_row hq
                simp only [List.getElem_toArray, List.getElem_cons_succ, List.getElem_cons_zero]
                rw [if_pos (by rfl)]
                refine wp_append_slice _ _ 28 rfl w1.heap.size 30 i0 _ 2 24 Tryd.underlying28 HI.out hz0 hz1 hz2 rfl (by decide) A5 rules.length c5 (rowsE ruleV rules) rfl hE (some ⟨X2.heap.size, 0, none⟩) 1 1 (ruleV ⟨pat, ign⟩) rfl hRD (ruleV_oneCell _) (by unfold maxLen; omega) (by omega) hX3.size ?_
                intro A6 c6 Y hE6 hg
                refine hK _ _ ?_
                clear hK K
                have hY := hX3.grown hg hX3.size (fun k hk => (hE.lt k hk).1)
                have hA6 := RulesAt.of_own (l := rules ++ [⟨pat, ign⟩]) (by rw [rowsE_append, rowsE_one]; exact hE6) (by simp)
                clear hE hg hRD hE6 hq
                have hI6 := HIG.out (rules ++ [⟨pat, ign⟩]) A6 c6 Y hY hA6 (by simp; omega)
                rw [HK.out, List.length_append, List.length_singleton] at hI6
                refine wpAny_ready (rs := [7]) (by kernel_rfl) (by simp) ?_
                refine AllReady.cons rfl (fun K hK => ?_) AllReady.nil
                go_simp
                refine hI6.mono ?_
                rintro e Z ⟨rfl, hZ⟩
                refine hK _ _ ?_
                clear hK K
                refine wpAny_ready (rs := [9]) (by kernel_rfl) (by simp) ?_
                refine AllReady.cons rfl (fun K hK => ?_) AllReady.nil
                go_simp
                refine hK _ _ ?_
                clear hK K
                refine wpAny_ready (rs := [10]) (by kernel_rfl) (by simp) ?_
                refine AllReady.cons rfl (fun K hK => ?_) AllReady.nil
                go_simp
                refine hK _ _ ?_
                clear hK K
                refine wpAny_done (by kernel_rfl) ?_ _
                go_wp2_with (fail)
                go_ret
                exact ⟨rfl, (HB01.out.trans (hY.mono HB01.out.size)).trans (hZ.mono (HB01.out.trans (hY.mono HB01.out.size)).size)⟩
              · skip
                obtain ⟨b0, b1⟩ := HBX.out X1 hX1
                go_simp
                refine hK _ _ ?_
                clear hK K b0 b1
                refine wpAny_ready (rs := [2, 4]) (by kernel_rfl) (by simp) ?_
                refine AllReady.cons rfl (fun K hK => ?_) (AllReady.cons rfl (fun K hK => ?_) AllReady.nil)
                · skip
                  have hRD := (HR.out X1 hX1).reads
                  simp only [List.getElem_toArray, List.getElem_cons_succ, List.getElem_cons_zero]
                  rw [if_pos (by rfl)]
                  refine wp_append_slice _ _ 28 rfl w1.heap.size 30 i0 _ 2 24 Tryd.underlying28 HI.out hz0 hz1 hz2 rfl (by decide) (some ⟨X0.heap.size, 0, none⟩) 0 0 [] rfl hE A rules.length c (rowsE ruleV rules) rfl hRD (rowsE_oneCell ruleV_oneCell rules) (by unfold maxLen; omega) (by omega) hX1.size ?_
                  intro A5 c5 X2 hE5 hg
                  refine hK _ _ ?_
                  clear hK K
                  have hX2 := hX1.grown hg hX1.size (fun k hk => (hE.lt k hk).1)
                  clear hE hg hRD
                  simp only [Nat.zero_add, List.nil_append] at hE5 ⊢
                  have hE := hE5
                  clear hE5
                  refine wpAny_ready (rs := [4]) (by kernel_rfl) (by simp) ?_
                  refine AllReady.cons rfl (fun K hK => ?_) AllReady.nil
                  go_simp
                  refine hK _ _ ?_
                  clear hK K
                  replace hE := hE.alloc (Obj.cells #[Value.bool ign, Value.string ⟨pat.toArray⟩] 30)
                  have hq := heap_alloc_new X2 (Obj.cells #[Value.bool ign, Value.string ⟨pat.toArray⟩] 30)
                  have hX3 := hX2.alloc hX2.size (Obj.cells #[Value.bool ign, Value.string ⟨pat.toArray⟩] 30)
                  generalize X2.alloc (Obj.cells #[Value.bool ign, Value.string ⟨pat.toArray⟩] 30) = X3 at *
                  refine wpAny_ready (rs := [5]) (by kernel_rfl) (by simp) ?_
                  refine AllReady.cons rfl (fun K hK => ?_) AllReady.nil
                  have hRD := reads_row hq
                  simp only [List.getElem_toArray, List.getElem_cons_succ, List.getElem_cons_zero]
                  rw [if_pos (by rfl)]
                  refine wp_append_slice _ _ 28 rfl w1.heap.size 30 i0 _ 2 24 Tryd.underlying28 HI.out hz0 hz1 hz2 rfl (by decide) A5 rules.length c5 (rowsE ruleV rules) rfl hE (some ⟨X2.heap.size, 0, none⟩) 1 1 (ruleV ⟨pat, ign⟩) rfl hRD (ruleV_oneCell _) (by unfold maxLen; omega) (by omega) hX3.size ?_
                  intro A6 c6 Y hE6 hg
                  refine hK _ _ ?_
                  clear hK K
                  have hY := hX3.grown hg hX3.size (fun k hk => (hE.lt k hk).1)
                  have hA6 := RulesAt.of_own (l := rules ++ [⟨pat, ign⟩]) (by rw [rowsE_append, rowsE_one]; exact hE6) (by simp)
                  clear hE hg hRD hE6 hq
                  have hI6 := HIG.out (rules ++ [⟨pat, ign⟩]) A6 c6 Y hY hA6 (by simp; omega)
                  rw [HK.out, List.length_append, List.length_singleton] at hI6
                  refine wpAny_ready (rs := [7]) (by kernel_rfl) (by simp) ?_
                  refine AllReady.cons rfl (fun K hK => ?_) AllReady.nil
                  go_simp
                  refine hI6.mono ?_
                  rintro e Z ⟨rfl, hZ⟩
                  refine hK _ _ ?_
                  clear hK K
                  refine wpAny_ready (rs := [9]) (by kernel_rfl) (by simp) ?_
                  refine AllReady.cons rfl (fun K hK => ?_) AllReady.nil
                  go_simp
                  refine hK _ _ ?_
                  clear hK K
                  refine wpAny_ready (rs := [10]) (by kernel_rfl) (by simp) ?_
                  refine AllReady.cons rfl (fun K hK => ?_) AllReady.nil
                  go_simp
                  refine hK _ _ ?_
                  clear hK K
                  refine wpAny_done (by kernel_rfl) ?_ _
                  go_wp2_with (fail)
                  go_ret
                  exact ⟨rfl, (HB01.out.trans (hY.mono HB01.out.size)).trans (hZ.mono (HB01.out.trans (hY.mono HB01.out.size)).size)⟩
                · skip
                  go_simp
                  refine hK _ _ ?_
                  clear hK K
                  have hlt0 : X0.heap.size < X1.heap.size := (hE.lt _ rfl).2
                  have hne : X1.heap.size ≠ X0.heap.size := by omega
                  replace hE := hE.alloc (Obj.cells #[Value.bool ign, Value.string ⟨pat.toArray⟩] 30)
                  have hq := heap_alloc_new X1 (Obj.cells #[Value.bool ign, Value.string ⟨pat.toArray⟩] 30)
                  have hX2 := hX1.alloc hX1.size (Obj.cells #[Value.bool ign, Value.string ⟨pat.toArray⟩] 30)
                  generalize X1.alloc (Obj.cells #[Value.bool ign, Value.string ⟨pat.toArray⟩] 30) = X2 at *
                  refine wpAny_ready (rs := [2]) (by kernel_rfl) (by simp) ?_
                  refine AllReady.cons rfl (fun K hK => ?_) AllReady.nil
                  have hRD := (HR.out X2 hX2).reads
                  simp only [List.getElem_toArray, List.getElem_cons_succ, List.getElem_cons_zero]
                  rw [if_pos (by rfl)]
                  refine wp_append_slice _ _ 28 rfl w1.heap.size 30 i0 _ 2 24 Tryd.underlying28 HI.out hz0 hz1 hz2 rfl (by decide) (some ⟨X0.heap.size, 0, none⟩) 0 0 [] rfl hE A rules.length c (rowsE ruleV rules) rfl hRD (rowsE_oneCell ruleV_oneCell rules) (by unfold maxLen; omega) (by omega) hX2.size ?_
                  intro A5 c5 X3 hE5 hg
                  refine hK _ _ ?_
                  clear hK K
                  have hX3 := hX2.grown hg hX2.size (fun k hk => (hE.lt k hk).1)
                  replace hq := (hg.block _ (lt_of_block hq) (fun e => hne (by injection e))).trans hq
                  clear hE hg hRD
                  simp only [Nat.zero_add, List.nil_append] at hE5 ⊢
                  have hE := hE5
                  clear hE5
                  refine wpAny_ready (rs := [5]) (by kernel_rfl) (by simp) ?_
                  refine AllReady.cons rfl (fun K hK => ?_) AllReady.nil
                  have hRD := reads_row hq
                  simp only [List.getElem_toArray, List.getElem_cons_succ, List.getElem_cons_zero]
                  rw [if_pos (by rfl)]
                  refine wp_append_slice _ _ 28 rfl w1.heap.size 30 i0 _ 2 24 Tryd.underlying28 HI.out hz0 hz1 hz2 rfl (by decide) A5 rules.length c5 (rowsE ruleV rules) rfl hE (some ⟨X1.heap.size, 0, none⟩) 1 1 (ruleV ⟨pat, ign⟩) rfl hRD (ruleV_oneCell _) (by unfold maxLen; omega) (by omega) hX3.size ?_
                  intro A6 c6 Y hE6 hg
                  refine hK _ _ ?_
                  clear hK K
                  have hY := hX3.grown hg hX3.size (fun k hk => (hE.lt k hk).1)
                  have hA6 := RulesAt.of_own (l := rules ++ [⟨pat, ign⟩]) (by rw [rowsE_append, rowsE_one]; exact hE6) (by simp)
                  clear hE hg hRD hE6 hq
                  have hI6 := HIG.out (rules ++ [⟨pat, ign⟩]) A6 c6 Y hY hA6 (by simp; omega)
                  rw [HK.out, List.length_append, List.length_singleton] at hI6
                  refine wpAny_ready (rs := [7]) (by kernel_rfl) (by simp) ?_
                  refine AllReady.cons rfl (fun K hK => ?_) AllReady.nil
                  go_simp
                  refine hI6.mono ?_
                  rintro e Z ⟨rfl, hZ⟩
                  refine hK _ _ ?_
                  clear hK K
                  refine wpAny_ready (rs := [9]) (by kernel_rfl) (by simp) ?_
                  refine AllReady.cons rfl (fun K hK => ?_) AllReady.nil
                  go_simp
                  refine hK _ _ ?_
                  clear hK K
                  refine wpAny_ready (rs := [10]) (by kernel_rfl) (by simp) ?_
                  refine AllReady.cons rfl (fun K hK => ?_) AllReady.nil
                  go_simp
                  refine hK _ _ ?_
                  clear hK K
                  refine wpAny_done (by kernel_rfl) ?_ _
                  go_wp2_with (fail)
                  go_ret
                  exact ⟨rfl, (HB01.out.trans (hY.mono HB01.out.size)).trans (hZ.mono (HB01.out.trans (hY.mono HB01.out.size)).size)⟩
            · skip
              obtain ⟨b0, b1⟩ := HBX.out X0 hX0
              go_simp
              refine hK _ _ ?_
              clear hK K b0 b1
              refine wpAny_ready (rs := [0, 4]) (by kernel_rfl) (by simp) ?_
              refine AllReady.cons rfl (fun K hK => ?_) (AllReady.cons rfl (fun K hK => ?_) AllReady.nil)
              · skip
                go_simp
                refine hK _ _ ?_
                clear hK K
                have hE := own_base1 (empty_own1 X0 30 2) hX0.size
                have hX1 := hX0.alloc hX0.size (Obj.cells #[] 30)
                generalize X0.alloc (Obj.cells #[] 30) = X1 at *
                refine wpAny_ready (rs := [2, 4]) (by kernel_rfl) (by simp) ?_
                refine AllReady.cons rfl (fun K hK => ?_) (AllReady.cons rfl (fun K hK => ?_) AllReady.nil)
                · skip
                  have hRD := (HR.out X1 hX1).reads
                  simp only [List.getElem_toArray, List.getElem_cons_succ, List.getElem_cons_zero]
                  rw [if_pos (by rfl)]
                  refine wp_append_slice _ _ 28 rfl w1.heap.size 30 i0 _ 2 24 Tryd.underlying28 HI.out hz0 hz1 hz2 rfl (by decide) (some ⟨X0.heap.size, 0, none⟩) 0 0 [] rfl hE A rules.length c (rowsE ruleV rules) rfl hRD (rowsE_oneCell ruleV_oneCell rules) (by unfold maxLen; omega) (by omega) hX1.size ?_
                  intro A5 c5 X2 hE5 hg
                  refine hK _ _ ?_
                  clear hK K
                  have hX2 := hX1.grown hg hX1.size (fun k hk => (hE.lt k hk).1)
                  clear hE hg hRD
                  simp only [Nat.zero_add, List.nil_append] at hE5 ⊢
                  have hE := hE5
                  clear hE5
                  refine wpAny_ready (rs := [4]) (by kernel_rfl) (by simp) ?_
                  refine AllReady.cons rfl (fun K hK => ?_) AllReady.nil
                  go_simp
                  refine hK _ _ ?_
                  clear hK K
                  replace hE := hE.alloc (Obj.cells #[Value.bool ign, Value.string ⟨pat.toArray⟩] 30)
                  have hq := heap_alloc_new X2 (Obj.cells #[Value.bool ign, Value.string ⟨pat.toArray⟩] 30)
                  have hX3 := hX2.alloc hX2.size (Obj.cells #[Value.bool ign, Value.string ⟨pat.toArray⟩] 30)
                  generalize X2.alloc (Obj.cells #[Value.bool ign, Value.string ⟨pat.toArray⟩] 30) = X3 at *
                  refine wpAny_ready (rs := [5]) (by kernel_rfl) (by simp) ?_
                  refine AllReady.cons rfl (fun K hK => ?_) AllReady.nil
                  have hRD := reads_row hq
                  simp only [List.getElem_toArray, List.getElem_cons_succ, List.getElem_cons_zero]
                  rw [if_pos (by rfl)]
                  refine wp_append_slice _ _ 28 rfl w1.heap.size 30 i0 _ 2 24 Tryd.underlying28 HI.out hz0 hz1 hz2 rfl (by decide) A5 rules.length c5 (rowsE ruleV rules) rfl hE (some ⟨X2.heap.size, 0, none⟩) 1 1 (ruleV ⟨pat, ign⟩) rfl hRD (ruleV_oneCell _) (by unfold maxLen; omega) (by omega) hX3.size ?_
                  intro A6 c6 Y hE6 hg
                  refine hK _ _ ?_
                  clear hK K
                  have hY := hX3.grown hg hX3.size (fun k hk => (hE.lt k hk).1)
                  have hA6 := RulesAt.of_own (l := rules ++ [⟨pat, ign⟩]) (by rw [rowsE_append, rowsE_one]; exact hE6) (by simp)
                  clear hE hg hRD hE6 hq
                  have hI6 := HIG.out (rules ++ [⟨pat, ign⟩]) A6 c6 Y hY hA6 (by simp; omega)
                  rw [HK.out, List.length_append, List.length_singleton] at hI6
                  refine wpAny_ready (rs := [7]) (by kernel_rfl) (by simp) ?_
                  refine AllReady.cons rfl (fun K hK => ?_) AllReady.nil
                  go_simp
                  refine hI6.mono ?_
                  rintro e Z ⟨rfl, hZ⟩
                  refine hK _ _ ?_
                  clear hK K
                  refine wpAny_ready (rs := [9]) (by kernel_rfl) (by simp) ?_
                  refine AllReady.cons rfl (fun K hK => ?_) AllReady.nil
                  go_simp
                  refine hK _ _ ?_
                  clear hK K
                  refine wpAny_ready (rs := [10]) (by kernel_rfl) (by simp) ?_
                  refine AllReady.cons rfl (fun K hK => ?_) AllReady.nil
                  go_simp
                  refine hK _ _ ?_
                  clear hK K
                  refine wpAny_done (by kernel_rfl) ?_ _
                  go_wp2_with (fail)
                  go_ret
                  exact ⟨rfl, (HB01.out.trans (hY.mono HB01.out.size)).trans (hZ.mono (HB01.out.trans (hY.mono HB01.out.size)).size)⟩
                · skip
                  go_simp
                  refine hK _ _ ?_
                  clear hK K
                  have hlt0 : X0.heap.size < X1.heap.size := (hE.lt _ rfl).2
                  have hne : X1.heap.size ≠ X0.heap.size := by omega
                  replace hE := hE.alloc (Obj.cells #[Value.bool ign, Value.string ⟨pat.toArray⟩] 30)
                  have hq := heap_alloc_new X1 (Obj.cells #[Value.bool ign, Value.string ⟨pat.toArray⟩] 30)
                  have hX2 := hX1.alloc hX1.size (Obj.cells #[Value.bool ign, Value.string ⟨pat.toArray⟩] 30)
                  generalize X1.alloc (Obj.cells #[Value.bool ign, Value.string ⟨pat.toArray⟩] 30) = X2 at *
                  refine wpAny_ready (rs := [2]) (by kernel_rfl) (by simp) ?_
                  refine AllReady.cons rfl (fun K hK => ?_) AllReady.nil
                  have hRD := (HR.out X2 hX2).reads
                  simp only [List.getElem_toArray, List.getElem_cons_succ, List.getElem_cons_zero]
                  rw [if_pos (by rfl)]
                  refine wp_append_slice _ _ 28 rfl w1.heap.size 30 i0 _ 2 24 Tryd.underlying28 HI.out hz0 hz1 hz2 rfl (by decide) (some ⟨X0.heap.size, 0, none⟩) 0 0 [] rfl hE A rules.length c (rowsE ruleV rules) rfl hRD (rowsE_oneCell ruleV_oneCell rules) (by unfold maxLen; omega) (by omega) hX2.size ?_
                  intro A5 c5 X3 hE5 hg
                  refine hK _ _ ?_
                  clear hK K
                  have hX3 := hX2.grown hg hX2.size (fun k hk => (hE.lt k hk).1)
                  replace hq := (hg.block _ (lt_of_block hq) (fun e => hne (by injection e))).trans hq
                  clear hE hg hRD
                  simp only [Nat.zero_add, List.nil_append] at hE5 ⊢
                  have hE := hE5
                  clear hE5
                  refine wpAny_ready (rs := [5]) (by kernel_rfl) (by simp) ?_
                  refine AllReady.cons rfl (fun K hK => ?_) AllReady.nil
                  have hRD := reads_row hq
                  simp only [List.getElem_toArray, List.getElem_cons_succ, List.getElem_cons_zero]
                  rw [if_pos (by rfl)]
                  refine wp_append_slice _ _ 28 rfl w1.heap.size 30 i0 _ 2 24 Tryd.underlying28 HI.out hz0 hz1 hz2 rfl (by decide) A5 rules.length c5 (rowsE ruleV rules) rfl hE (some ⟨X1.heap.size, 0, none⟩) 1 1 (ruleV ⟨pat, ign⟩) rfl hRD (ruleV_oneCell _) (by unfold maxLen; omega) (by omega) hX3.size ?_
                  intro A6 c6 Y hE6 hg
                  refine hK _ _ ?_
                  clear hK K
                  have hY := hX3.grown hg hX3.size (fun k hk => (hE.lt k hk).1)
                  have hA6 := RulesAt.of_own (l := rules ++ [⟨pat, ign⟩]) (by rw [rowsE_append, rowsE_one]; exact hE6) (by simp)
                  clear hE hg hRD hE6 hq
                  have hI6 := HIG.out (rules ++ [⟨pat, ign⟩]) A6 c6 Y hY hA6 (by simp; omega)
                  rw [HK.out, List.length_append, List.length_singleton] at hI6
                  refine wpAny_ready (rs := [7]) (by kernel_rfl) (by simp) ?_
                  refine AllReady.cons rfl (fun K hK => ?_) AllReady.nil
                  go_simp
                  refine hI6.mono ?_
                  rintro e Z ⟨rfl, hZ⟩
                  refine hK _ _ ?_
                  clear hK K
                  refine wpAny_ready (rs := [9]) (by kernel_rfl) (by simp) ?_
                  refine AllReady.cons rfl (fun K hK => ?_) AllReady.nil
                  go_simp
                  refine hK _ _ ?_
                  clear hK K
                  refine wpAny_ready (rs := [10]) (by kernel_rfl) (by simp) ?_
                  refine AllReady.cons rfl (fun K hK => ?_) AllReady.nil
                  go_simp
                  refine hK _ _ ?_
                  clear hK K
                  refine wpAny_done (by kernel_rfl) ?_ _
                  go_wp2_with (fail)
                  go_ret
                  exact ⟨rfl, (HB01.out.trans (hY.mono HB01.out.size)).trans (hZ.mono (HB01.out.trans (hY.mono HB01.out.size)).size)⟩
              · skip
                go_simp
                refine hK _ _ ?_
                clear hK K
                have hq := heap_alloc_new X0 (Obj.cells #[Value.bool ign, Value.string ⟨pat.toArray⟩] 30)
                have hX1 := hX0.alloc hX0.size (Obj.cells #[Value.bool ign, Value.string ⟨pat.toArray⟩] 30)
                generalize X0.alloc (Obj.cells #[Value.bool ign, Value.string ⟨pat.toArray⟩] 30) = X1 at *
                refine wpAny_ready (rs := [0]) (by kernel_rfl) (by simp) ?_
                refine AllReady.cons rfl (fun K hK => ?_) AllReady.nil
                go_simp
                refine hK _ _ ?_
                clear hK K
                have hE := own_base1 (empty_own1 X1 30 2) hX1.size
                have hX2 := hX1.alloc hX1.size (Obj.cells #[] 30)
                have hne : X0.heap.size ≠ X1.heap.size := by have := lt_of_block hq; omega
                replace hq := (heap_alloc_old X1 (Obj.cells #[] 30) (lt_of_block hq)).trans hq
                generalize X1.alloc (Obj.cells #[] 30) = X2 at *
                refine wpAny_ready (rs := [2]) (by kernel_rfl) (by simp) ?_
                refine AllReady.cons rfl (fun K hK => ?_) AllReady.nil
                have hRD := (HR.out X2 hX2).reads
                simp only [List.getElem_toArray, List.getElem_cons_succ, List.getElem_cons_zero]
                rw [if_pos (by rfl)]
                refine wp_append_slice _ _ 28 rfl w1.heap.size 30 i0 _ 2 24 Tryd.underlying28 HI.out hz0 hz1 hz2 rfl (by decide) (some ⟨X1.heap.size, 0, none⟩) 0 0 [] rfl hE A rules.length c (rowsE ruleV rules) rfl hRD (rowsE_oneCell ruleV_oneCell rules) (by unfold maxLen; omega) (by omega) hX2.size ?_
                intro A5 c5 X3 hE5 hg
                refine hK _ _ ?_
                clear hK K
                have hX3 := hX2.grown hg hX2.size (fun k hk => (hE.lt k hk).1)
                replace hq := (hg.block _ (lt_of_block hq) (fun e => hne (by injection e))).trans hq
                clear hE hg hRD
                simp only [Nat.zero_add, List.nil_append] at hE5 ⊢
                have hE := hE5
                clear hE5
                refine wpAny_ready (rs := [5]) (by kernel_rfl) (by simp) ?_
                refine AllReady.cons rfl (fun K hK => ?_) AllReady.nil
                have hRD := reads_row hq
                simp only [List.getElem_toArray, List.getElem_cons_succ, List.getElem_cons_zero]
                rw [if_pos (by rfl)]
                refine wp_append_slice _ _ 28 rfl w1.heap.size 30 i0 _ 2 24 Tryd.underlying28 HI.out hz0 hz1 hz2 rfl (by decide) A5 rules.length c5 (rowsE ruleV rules) rfl hE (some ⟨X0.heap.size, 0, none⟩) 1 1 (ruleV ⟨pat, ign⟩) rfl hRD (ruleV_oneCell _) (by unfold maxLen; omega) (by omega) hX3.size ?_
                intro A6 c6 Y hE6 hg
                refine hK _ _ ?_
                clear hK K
                have hY := hX3.grown hg hX3.size (fun k hk => (hE.lt k hk).1)
                have hA6 := RulesAt.of_own (l := rules ++ [⟨pat, ign⟩]) (by rw [rowsE_append, rowsE_one]; exact hE6) (by simp)
                clear hE hg hRD hE6 hq
                have hI6 := HIG.out (rules ++ [⟨pat, ign⟩]) A6 c6 Y hY hA6 (by simp; omega)
                rw [HK.out, List.length_append, List.length_singleton] at hI6
                refine wpAny_ready (rs := [7]) (by kernel_rfl) (by simp) ?_
                refine AllReady.cons rfl (fun K hK => ?_) AllReady.nil
                go_simp
                refine hI6.mono ?_
                rintro e Z ⟨rfl, hZ⟩
                refine hK _ _ ?_
                clear hK K
                refine wpAny_ready (rs := [9]) (by kernel_rfl) (by simp) ?_
                refine AllReady.cons rfl (fun K hK => ?_) AllReady.nil
                go_simp
                refine hK _ _ ?_
                clear hK K
                refine wpAny_ready (rs := [10]) (by kernel_rfl) (by simp) ?_
                refine AllReady.cons rfl (fun K hK => ?_) AllReady.nil
                go_simp
                refine hK _ _ ?_
                clear hK K
                refine wpAny_done (by kernel_rfl) ?_ _
                go_wp2_with (fail)
                go_ret
                exact ⟨rfl, (HB01.out.trans (hY.mono HB01.out.size)).trans (hZ.mono (HB01.out.trans (hY.mono HB01.out.size)).size)⟩
          · obtain ⟨hqok, hqi⟩ := HQ.out.2 hq0
            have hne : q.isEmpty = false := by cases q; exact absurd rfl hq0; rfl
            have hst := anyUp_step (matchG pat) hqok
            have hMQ := HMT.out q wr HB.out
            obtain ⟨b0, b1⟩ := HBX.out wr HB.out
            cases hlg : matchG pat q with
            | true =>
              rw [hlg] at hMQ
              have HMQ := Lib.hid hMQ
              clear hMQ hst hqi hqok hq0 hlg
              go_wp2_with (fail)
              refine HMQ.out.mono ?_
              rintro e w8 ⟨rfl, hw8⟩
              go_wp2_with (fail)
              go_ret
              exact ⟨rfl, (HB01.out.trans (HB.out.mono HB01.out.size)).trans (hw8.mono (HB01.out.trans (HB.out.mono HB01.out.size)).size)⟩
            | false =>
              rw [hlg, Bool.false_or] at hst
              rw [hlg] at hMQ
              have HMQ := Lib.hid hMQ
              have hpl : (parentM q).length < q.length := by
                by_cases e : parentM q = []
                · rw [e]; exact List.length_pos_iff.2 hq0
                · exact parent_shorter hqok e
              have HN := Lib.hid (show (parentM q = [] → anyUp (matchG pat) s = false) ∧ (parentM q ≠ [] → pathOK (parentM q) = true ∧ anyUp (matchG pat) s = anyUp (matchG pat) (parentM q)) from
                ⟨fun e => by rw [hqi, hst, if_pos e], fun e => ⟨parent_ok hqok e, by rw [hqi, hst, if_neg e]⟩⟩)
              have HPQ := Lib.hid (fun W => HPA.out q W hql)
              clear hMQ hst hqi hqok hq0 hlg
              generalize parentM q = pq at *
              go_wp2_with (fail)
              refine HMQ.out.mono ?_
              rintro e w8 ⟨rfl, hw8⟩
              have hB8 := HB.out.trans (hw8.mono HB.out.size)
              clear hw8 b0 b1
              go_wp2_with (fail)
              refine (HPQ.out _).mono ?_
              rintro e w9 ⟨rfl, hw9⟩
              have HB9 := Lib.hid (hB8.trans (hw9.mono hB8.size))
              clear hw9 hB8
              go_wp2_with (fail)
              go_roundw
              case rel => exact ⟨pq, rfl, by omega, HN, HB9⟩
              case measure => simp [strLenG, ByteArray.size]; exact hpl

open Go.ChangeShapes Go.WideShapes Go.ChangeAt in
/-- What the walk gives, for every argument. -/
theorem GlobKeeps_contract (H : Type) (enc : TypeId × Value → H) (W : World) (base : Nat) (args : Array Value) (ds gs : List (DataW H)) (before : List MemPlace)
    (hval : ∀ (j : Nat) t v, Tryd.f6.params[j]? = some t → args[j]? = some v → Value.okWide Tryd.prog W .any base t v)
    (hW : DataW.Whole enc Tryd.prog Tryd.f6.params.toList Rows.globKeepsSpec.vars false W args.toList ds gs before) (hL : laidMetH Tryd.prog Rows.globKeepsRow.laid W) (hS : W.ShapedOpen Tryd.prog) (hk : Rows.uptoSmall H (ds ++ gs) = true) :
    Calls Tryd.prog 6 args W fun e W' => ∃ v, e = .returned v ∧ Rows.globKeepsSpec.post enc Tryd.prog Tryd.f6 false true false false W args v W' := by
  have hW' := hW
  obtain ⟨p, q, hA0, hV, rfl, hfz, hnd⟩ := hW
  have hA : DataW.TrodAll enc Tryd.prog W 0 (fun _ => true) true Tryd.f6.params.toList args.toList ds p := hA0
  rw [Tryd.params6] at hA hval
  obtain ⟨v0, vs0, d0, ds0, p0, q0, hargs, rfl, rfl, h0, r0⟩ := trodAll_cons hA
  obtain ⟨v1, vs1, d1, ds1, p1, q1, rfl, rfl, rfl, h1, r1⟩ := trodAll_cons r0
  obtain ⟨v2, vs2, d2, ds2, p2, q2, rfl, rfl, rfl, h2, r2⟩ := trodAll_cons r1
  obtain ⟨rfl, rfl, rfl⟩ := trodAll_nil r2
  obtain rfl : args = #[v0, v1, v2] := by cases args; simp_all
  obtain ⟨rfl, rfl⟩ := trodVars_none hV
  obtain ⟨A0, c0, x0, rfl, hc0, hm0, ks0, kd0, kw0⟩ := open_rules (hval 0 28 v0 rfl rfl) h0
  obtain ⟨x1, rfl, rfl, rfl, k1⟩ := ChangeMaps.open_string Tryd.underlying9 (hval 1 9 v1 rfl rfl) h1
  have k1 : x1.data.toList.length ≤ 9223372036854775807 := by unfold maxLen at k1; simpa using k1
  obtain ⟨xa2, xb2, ya2, yb2, fu2, rfl, rfl, rfl, ha2, hb2⟩ := Go.Joins.open_agg2 Tryd.underlying30 (by kernel_rfl) (by kernel_rfl) (hval 2 30 v2 rfl rfl) h2
  obtain ⟨a2, ea2, rfl⟩ := DataW.trod_bool Tryd.underlying4 ha2
  obtain ⟨b2, eb2, rfl, kb2⟩ := trod_str Tryd.underlying9 hb2
  simp only [List.cons.injEq, and_true] at ea2
  subst ea2 eb2
  clear hA0
  have hbulk := bulk_bound hk
  simp only [List.cons_append, List.nil_append, List.append_nil, Rows.uptoBulkAll] at hbulk
  obtain ⟨m, hm⟩ := laid_of hL hS
  simp only [Rows.uptoBulk, Rows.uptoBulkAll] at hbulk
  have hsl := sum_ge x0 (fun o => o.pat.length + 1) (by simp)
  have hs1 : x1.data.toList.length ≤ 1048576 := by omega
  refine (GlobKeeps_any x0 A0 c0 x1.data.toList a2 b2 m W hm ks0 hc0 (by omega) (by omega)).mono ?_
  exact fun e W' ⟨he, hb⟩ => ⟨_, he, law_post rfl hW' rfl (by kernel_rfl) Tryd.underlying4 (by kernel_rfl) laidOut hb⟩

open Go.ChangeShapes Go.WideShapes Go.ChangeAt in
theorem GlobKeeps_met (os : Os) : laidMet Tryd.prog Rows.globKeepsUptoRow.laid ((laidWorld os).forCall (fun _ _ => 0) ⟨#[], #[.slice none 0 0, .string ⟨#[]⟩, .agg #[.bool false, .string ⟨#[]⟩]], []⟩).memory :=
  laidMet_of_run' 8 (by kernel_rfl) (by kernel_rfl)
open Go.ChangeShapes Go.WideShapes Go.ChangeAt in
theorem GlobKeeps_reads (os : Os) {H : Type} (enc : TypeId × Value → H) : ∃ places, DataW.whole enc Tryd.prog ((laidWorld os).forCall (fun _ _ => 0) ⟨#[], #[.slice none 0 0, .string ⟨#[]⟩, .agg #[.bool false, .string ⟨#[]⟩]], []⟩).memory Tryd.f6.params.toList Rows.globKeepsSpec.vars false #[.slice none 0 0, .string ⟨#[]⟩, .agg #[.bool false, .string ⟨#[]⟩]].toList 8 = some ([.nil, .lit (.string []), .agg [.lit (.bool false), .lit (.string [])]], [], places) :=
  ⟨[], by kernel_rfl⟩

open Go.ChangeShapes Go.WideShapes Go.ChangeAt in
set_option maxRecDepth 100000 in
theorem GlobKeeps_lifted (os : Os) (started : os.Started) (H : Type) (enc : TypeId × Value → H) (F : Stop.Interp) :
    ReturnsInHanded {} Tryd.checked os 6 .any ((Rows.OpenSpec.upto Rows.globKeepsSpec).preRow enc Tryd.prog Tryd.f6 Rows.globKeepsUptoRow.domain false Rows.globKeepsUptoRow.laid) (((Rows.OpenSpec.upto Rows.globKeepsSpec).at F).post enc Tryd.prog Tryd.f6 false true false false) := by
  obtain ⟨places, hx⟩ := GlobKeeps_reads os enc
  refine returnsInHanded_of_row (C := Tryd.checked) (s := Rows.OpenSpec.upto Rows.globKeepsSpec) own started (by kernel_rfl) Tryd.func6
    (witness_row_at (enc := enc) (C := Tryd.checked) false (laidWorld os) #[.slice none 0 0, .string ⟨#[]⟩, .agg #[.bool false, .string ⟨#[]⟩]] rfl (by kernel_rfl) (by kernel_rfl) (by kernel_rfl)
      (OpenSpec.preRow_of_cond 8 hx (by kernel_rfl) (fun k hk => by cases hk; kernel_rfl) (by kernel_rfl) (GlobKeeps_met os))) ?_
  intro W base args ds gs before hval hW _ hcond _ hL hS _
  exact GlobKeeps_contract H enc W base args ds gs before hval hW hL hS (hcond _ rfl)

theorem GlobKeeps_said : Rows.GlobKeepsUptoSaid :=
  OpenClaim.holds_of_cond 6 Tryd.f6 rfl rfl rfl rfl rfl rfl rfl ⟨rfl, rfl, rfl, rfl, rfl⟩ rfl rfl rfl rfl rfl (by kernel_rfl) Tryd.func6 (by kernel_rfl)
    (of_decide_eq_true (by kernel_rfl)) (by unfold Func.isWrapper; first | (rw [if_pos (by decide +kernel)]; kernel_rfl) | (rw [if_neg (by decide +kernel)]; exact ⟨rfl, rfl⟩))
    (fun os started H enc _ F => by rw [OpenClaim.pre_eq_preRow]; exact GlobKeeps_lifted os started H enc F)

theorem GlobKeeps_holds : Rows.GlobKeepsUptoCardSaid :=
  Claim7.holds_tied_plain_at .later [] _ _ _ _ GlobKeeps_said (fun _ h => by cases h) (by kernel_rfl) (fun _ h => by cases h) globKeepsUpto_row_tie rfl ⟨rfl, rfl⟩ (by kernel_rfl) rfl
    (card_plain (f0 := 6) (fn0 := Tryd.f6) (by kernel_rfl) Tryd.func6 (by kernel_rfl) (by kernel_rfl)) (by kernel_rfl)
end Go.Proofs.YtgppfcaghjbjmaaDoor
