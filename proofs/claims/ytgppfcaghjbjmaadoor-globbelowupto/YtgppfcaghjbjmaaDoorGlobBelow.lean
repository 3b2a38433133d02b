/- hawserlaw02.GlobBelow: what is below an ignored path is ignored; the last rule has the last word. The condition: the arguments' bulk is what a machine can hold (Upto). -/
import Derived.Test.YtgppfcaghjbjmaaDoorMore
import Derived.Test.YtgppfcaghjbjmaaDoorNameRefB
import Derived.Test.YtgppfcaghjbjmaaDoorTabs
import Derived.Test.YtgppfcaghjbjmaaDoorCard
import Derived.Test.YtgppfcaghjbjmaaDoorOpen
import Derived.Test.YtgppfcaghjbjmaaDoorClose
import Derived.Test.YtgppfcaghjbjmaaDoorRulesOpen
import Derived.Deep.DeepCutAuto
import Derived.Deep.CutBlock
set_option linter.unusedVariables false
namespace Go.Proofs.YtgppfcaghjbjmaaDoor
open Go.RowKit Plain

section
open Go.ChangeShapes Go.WideShapes Go.ChangeAt Go.Deep
variable {H : Type} {enc : TypeId × Value → H} {w : World} {base : Nat} {held : Bool}
theorem open_next {r : Reach} {b0 : Nat} {v : Value} {d : DataW H} {ps : List MemPlace} (hval : Value.okWide Tryd.prog w r b0 32 v) (hd : DataW.Trod enc Tryd.prog w base (fun _ => true) held 32 v d ps) :
    ∃ (n : List UInt8) (b : Bool) (q : List UInt8), v = .agg #[.string ⟨n.toArray⟩, .bool b, .string ⟨q.toArray⟩] ∧ n.length ≤ Rows.uptoBulk d := by
  obtain ⟨cs, rfl, hsz⟩ := okWide_struct Tryd.underlying32 hval
  have hc3 : Tryd.prog.cellsOf 32 = 3 := by kernel_rfl
  have hc2 : Tryd.prog.cellsOf 30 = 2 := by kernel_rfl
  have hcs : Tryd.prog.cellsOf 9 = 1 := by kernel_rfl
  have hcb : Tryd.prog.cellsOf 4 = 1 := by kernel_rfl
  obtain ⟨c0, c1, c2, rfl⟩ := Go.Joins.array3 (hsz.trans hc3)
  obtain ⟨fuel, hf⟩ := hd
  obtain ⟨y0, y1, n, hx, _, h0, h1⟩ := trod_struct2 Tryd.underlying32 hf
  simp only [hcs, hc2] at h0 h1
  obtain ⟨m0, e0, f0, l0⟩ := trod_str Tryd.underlying9 (show DataW.trod enc Tryd.prog w base (fun _ => true) held n 9 [c0] = some y0 from h0)
  obtain ⟨z0, z1, n', hz, _, g0, g1⟩ := trod_struct2 Tryd.underlying30 (show DataW.trod enc Tryd.prog w base (fun _ => true) held n 30 [c1, c2] = some y1 from h1)
  simp only [hcs, hcb] at g0 g1
  obtain ⟨m1, e1, f1⟩ := DataW.trod_bool Tryd.underlying4 (show DataW.trod enc Tryd.prog w base (fun _ => true) held n' 4 [c1] = some z0 from g0)
  obtain ⟨m2, e2, f2, l2⟩ := trod_str Tryd.underlying9 (show DataW.trod enc Tryd.prog w base (fun _ => true) held n' 9 [c2] = some z1 from g1)
  simp only [List.cons.injEq, and_true] at e1
  subst e0 e1 e2 f0
  refine ⟨m0, m1, m2, rfl, ?_⟩
  simp only [Prod.mk.injEq] at hx
  rw [hx.1]
  simp only [Rows.uptoBulk, Rows.uptoBulkAll]
  omega
end

namespace Plain
theorem ignG_up (l : List Rule) {s : List UInt8} (h : pathOK s = true) (hne : parentM s ≠ []) (hi : ignG l (parentM s) = true) : ignG l s = true := by
  rw [ignG_step l h, if_neg hne, hi, Bool.or_true]
theorem ignG_last {l : List Rule} {r : Rule} {s : List UInt8} (h : pathOK s = true) (hu : parentM s = [] ∨ ignG (l ++ [r]) (parentM s) = false) (hm : matchG r.pat s = true) : ignG (l ++ [r]) s = r.ign := by
  rw [ignG_step _ h, lastG_snoc, if_pos hm]
  rcases hu with hu | hu
  · rw [if_pos hu, Bool.or_false]
  · rw [hu]; simp
end Plain

set_option maxHeartbeats 1500000 in
set_option maxRecDepth 100000 in
theorem GlobBelow_any (rules : List Rule) (A : Option Addr) (c : Nat) (s : List UInt8) (nm : List UInt8) (ign : Bool) (pat : List UInt8) (m : Int) (w : World) (hL : Laid w m) (hR : RulesAt w A rules) (hlc : rules.length ≤ c) (hlen : rules.length ≤ 1048576) (hs : s.length ≤ 8796093022200) (hn : nm.length ≤ 1048576) :
    Calls Tryd.prog 5 #[.slice A rules.length c, .string ⟨s.toArray⟩, .agg #[.string ⟨nm.toArray⟩, .bool ign, .string ⟨pat.toArray⟩]] w (Ret w (.bool true)) := by
  obtain ⟨i0, hi, hz0, hz1, hz2⟩ := info_parts info_rule
  have HI := Lib.hid hi
  clear hi
  have HL0 := Lib.hid hL
  have HR0 := Lib.hid hR
  clear hL hR
  go_enter Tryd.func5, Tryd.ntmps5
  go_wp2_with (fail)
  obtain ⟨wb, hwb⟩ : ∃ wb, w.alloc (.cells #[.string ⟨nm.toArray⟩, .bool ign, .string ⟨pat.toArray⟩] 32) = wb := ⟨_, rfl⟩
  have n0 : wb.cell? ⟨w.heap.size, 0, none⟩ = some (.string ⟨nm.toArray⟩) := by rw [← hwb]; simp [go_sem]
  have n1 : wb.cell? ⟨w.heap.size, 1, none⟩ = some (.bool ign) := by rw [← hwb]; simp [go_sem]
  have n2 : wb.cell? ⟨w.heap.size, 2, none⟩ = some (.string ⟨pat.toArray⟩) := by rw [← hwb]; simp [go_sem]
  have hbb : Below w.heap.size w wb := by rw [← hwb]; exact below_alloc1 _ _
  have hbs : wb.heap.size = w.heap.size + 1 := by rw [← hwb]; simp
  rw [hwb]
  have HBB := Lib.hid hbb
  have HBS := Lib.hid hbs
  have a0 : ∀ o, (wb.alloc o).cell? ⟨w.heap.size, 0, none⟩ = some (.string ⟨nm.toArray⟩) := fun o => ((below_alloc1 wb o).cell (World.block_lt_of_cell? _ _ n0)).trans n0
  have a1 : ∀ o, (wb.alloc o).cell? ⟨w.heap.size, 1, none⟩ = some (.bool ign) := fun o => ((below_alloc1 wb o).cell (World.block_lt_of_cell? _ _ n1)).trans n1
  have a2 : ∀ o, (wb.alloc o).cell? ⟨w.heap.size, 2, none⟩ = some (.string ⟨pat.toArray⟩) := fun o => ((below_alloc1 wb o).cell (World.block_lt_of_cell? _ _ n2)).trans n2
  clear hwb hbb hbs
  go_region
  obtain ⟨w1, hw1⟩ : ∃ w1, (wb.alloc (.cells #[.bool ign, .string ⟨pat.toArray⟩] 30)).drew = w1 := ⟨_, rfl⟩
  rw [hw1]
  have hB01 : Below w.heap.size w w1 := by rw [← hw1]; exact ((HBB.out).alloc HBB.out.size _).drew
  have hs1 : w1.heap.size = w.heap.size + 2 := by
    rw [← hw1]
    show (wb.alloc _).heap.size = _
    rw [World.size_alloc, HBS.out]
  have b0 : w1.cell? ⟨wb.heap.size, 0, none⟩ = some (.bool ign) := by rw [← hw1]; show (wb.alloc _).cell? _ = _; simp [go_sem]
  have b1 : w1.cell? ⟨wb.heap.size, 1, none⟩ = some (.string ⟨pat.toArray⟩) := by rw [← hw1]; show (wb.alloc _).cell? _ = _; simp [go_sem]
  have HL := Lib.hid (fun W (h : Below w1.heap.size w1 W) => HL0.out.below (hB01.trans (h.mono hB01.size)))
  have HR := Lib.hid (fun W (h : Below w1.heap.size w1 W) => HR0.out.below (hB01.trans (h.mono hB01.size)))
  have HBX := Lib.hid (fun W (h : Below w1.heap.size w1 W) => And.intro ((h.cell (p := ⟨wb.heap.size, 0, none⟩) (World.block_lt_of_cell? _ _ b0)).trans b0) ((h.cell (p := ⟨wb.heap.size, 1, none⟩) (World.block_lt_of_cell? _ _ b1)).trans b1))
  have HB01 := Lib.hid hB01
  have HS1 := Lib.hid hs1
  have HAW := Lib.hid (fun W (h : Below w1.heap.size w1 W) => awake_any m W (HL.out W h))
  have HPR := Lib.hid (fun W => Path_ref s W hs)
  have HIG := Lib.hid (fun (l : List Rule) (B : Option Addr) (d : Nat) (q : List UInt8) W (h : Below w1.heap.size w1 W) (hr : RulesAt W B l) (hl : l.length ≤ 4294967296) (hq : q.length ≤ 9223372036854775807) => Ignored_any l B d q m W (HL.out W h) hr hl hq)
  have HMT := Lib.hid (fun q W (h : Below w1.heap.size w1 W) => Match_all pat q m W (HL.out W h))
  have HPA := Lib.hid (fun (q : List UInt8) W (hq : q.length ≤ s.length) => Parent_ref q W (by omega))
  clear hB01 hs1 b0 b1 hw1 a0 a1 a2 n0 n1 n2 HL0 HR0 HBB
  go_wp2_with (fail)
  refine (HAW.out _ (Below.refl _ _)).mono ?_
  rintro e w2 ⟨rfl, hB2⟩
  by_cases h8 : 8 < rules.length
  · have h8' : decide ((8 : Int) < (rules.length : Int)) = true := by rw [decide_eq_true_eq]; omega
    go_wp2_with (fail)
    go_ret
    exact ⟨rfl, HB01.out.trans (hB2.mono HB01.out.size)⟩
  have h8' : decide ((8 : Int) < (rules.length : Int)) = false := by rw [decide_eq_false_iff_not]; omega
  cases hok : pathOK s with
  | false =>
    have hp := HPR.out w2
    rw [hok] at hp
    have HP := Lib.hid hp
    clear hp hok
    go_wp2_with (fail)
    refine HP.out.mono ?_
    rintro e w3 ⟨rfl, hw3⟩
    go_wp2_with (fail)
    go_ret
    exact ⟨rfl, (HB01.out.trans (hB2.mono HB01.out.size)).trans (hw3.mono (HB01.out.trans (hB2.mono HB01.out.size)).size)⟩
  | true =>
    have hp := HPR.out w2
    rw [hok] at hp
    have HP := Lib.hid hp
    have HOK := Lib.hid hok
    have hs400 := pathOK_len hok
    clear hp hok
    go_wp2_with (fail)
    refine HP.out.mono ?_
    rintro e w3 ⟨rfl, hw3⟩
    have HB3 := Lib.hid (hB2.trans (hw3.mono hB2.size))
    obtain ⟨b0, b1⟩ := HBX.out w3 HB3.out
    clear hw3 hB2
    by_cases h40 : 40 < pat.length
    · have h40' : decide ((40 : Int) < (pat.length : Int)) = true := by rw [decide_eq_true_eq]; omega
      go_wp2_with (fail)
      go_ret
      exact ⟨rfl, HB01.out.trans (HB3.out.mono HB01.out.size)⟩
    have h40' : decide ((40 : Int) < (pat.length : Int)) = false := by rw [decide_eq_false_iff_not]; omega
    go_wp2_with (fail)
    clear b0 b1
    go_loopw [34] (fun t34 W => ∃ i : Nat, i ≤ rules.length ∧ t34 = .int .i64 i ∧ W = w3) (fun t34 _ => rules.length - (intOf t34).toNat)
    case atStart => exact ⟨0, by omega, rfl, rfl⟩
    case round =>
      obtain ⟨i, hi, rfl, rfl⟩ := hrel
      have i0' : (0 : Int) ≤ i := by omega
      by_cases hlt : i < rules.length
      · have i1 : (i : Int) < rules.length := by omega
        obtain ⟨ad, rfl, r0, r1⟩ := (HR.out _ HB3.out).at_ hlt
        generalize rules[i] = ru at *
        by_cases hp4 : 40 < ru.pat.length
        · have hp4' : decide ((40 : Int) < (ru.pat.length : Int)) = true := by rw [decide_eq_true_eq]; omega
          go_wp2_with (fail)
          go_ret
          exact ⟨rfl, HB01.out.trans (HB3.out.mono HB01.out.size)⟩
        · have hp4' : decide ((40 : Int) < (ru.pat.length : Int)) = false := by rw [decide_eq_false_iff_not]; omega
          go_wp2_with (fail)
          go_roundw
          case rel => exact ⟨i + 1, by omega, by go_num, by first | trivial | rfl⟩
          case measure => simp [intOf]; omega
      · have i1 : ¬ (i : Int) < rules.length := by omega
        have hIg := HIG.out rules A c s wr HB3.out (HR.out _ HB3.out) (by omega) (by omega)
        have HUN := Lib.hid (fun (h1 : ignG rules s = true) (h2 : pathOK (s ++ 47 :: nm) = true) => ign_below (parts_under s nm) h2 h1)
        generalize hres : ignG rules s = res at *
        have HIg := Lib.hid hIg
        have HPX := Lib.hid (fun W => Path_ref (s ++ 47 :: nm) W (by simp; omega))
        have HIX := Lib.hid (fun W (h : Below w1.heap.size w1 W) => HIG.out rules A c (s ++ 47 :: nm) W h (HR.out _ h) (by omega) (by simp; omega))
        clear hIg hlt hres
        go_upto_region 12 with fail
        go_cut [63] (fun t63 W => t63 = .bool false ∧ Hid (Below w1.heap.size w1 W))
        case first =>
          cases res with
          | false =>
            go_wp2_with (fail)
            refine HIg.out.mono ?_
            rintro e w4 ⟨rfl, hw4⟩
            have HB4 := Lib.hid (HB3.out.trans (hw4.mono HB3.out.size))
            clear hw4
            go_wp2_with (fail)
            go_meet
            exact ⟨rfl, HB4⟩
          | true =>
            cases hpx : pathOK (s ++ 47 :: nm) with
            | false =>
              have hPX := HPX.out
              rw [hpx] at hPX
              have HPX2 := Lib.hid hPX
              clear hPX hpx HUN
              go_wp2_with (fail)
              refine HIg.out.mono ?_
              rintro e w4 ⟨rfl, hw4⟩
              have HB4 := Lib.hid (HB3.out.trans (hw4.mono HB3.out.size))
              clear hw4
              go_wp2_with (fail)
              refine (HPX2.out _).mono ?_
              rintro e w5 ⟨rfl, hw5⟩
              have HB5 := Lib.hid (HB4.out.trans (hw5.mono HB4.out.size))
              clear hw5
              go_wp2_with (fail)
              go_meet
              exact ⟨rfl, HB5⟩
            | true =>
              have hPX := HPX.out
              rw [hpx] at hPX
              have HPX2 := Lib.hid hPX
              have hIX := HIX.out
              rw [HUN.out rfl hpx] at hIX
              have HIX2 := Lib.hid hIX
              clear hPX hpx HUN hIX
              go_wp2_with (fail)
              refine HIg.out.mono ?_
              rintro e w4 ⟨rfl, hw4⟩
              have HB4 := Lib.hid (HB3.out.trans (hw4.mono HB3.out.size))
              clear hw4
              go_wp2_with (fail)
              refine (HPX2.out _).mono ?_
              rintro e w5 ⟨rfl, hw5⟩
              have HB5 := Lib.hid (HB4.out.trans (hw5.mono HB4.out.size))
              clear hw5
              go_wp2_with (fail)
              refine (HIX2.out _ HB5.out).mono ?_
              rintro e w6 ⟨rfl, hw6⟩
              have HB6 := Lib.hid (HB5.out.trans (hw6.mono HB5.out.size))
              clear hw6
              go_wp2_with (fail)
              go_meet
              exact ⟨rfl, HB6⟩
        case rest =>
          obtain ⟨rfl, HBC⟩ := hcut
          clear HIg HUN HPX HIX
          go_upto_region 14 with fail
          go_cut [10] (fun t10 W => ∃ (A6 : Option Addr) (c6 : Nat), t10 = .slice A6 (rules.length + 1) c6 ∧ Hid (RulesAt W A6 (rules ++ [⟨pat, ign⟩])) ∧ Hid (Below w1.heap.size w1 W))
          case first =>
            have hX0 : Below w1.heap.size w1 wc.drew := HBC.out.drew
            refine wp_region_any (by kernel_rfl) ?_
            change wpAny _ _ _ _ (6 + 1) #[false, false, false, false, false, false, false] _ wc.drew
            generalize wc.drew = X0 at *
            refine wpAny_take (i := 1) (v := .slice A rules.length c) rfl (by kernel_rfl) (by kernel_rfl) (by kernel_rfl) (fun _ _ _ h => h) (Or.inl ⟨by rfl, ?_⟩) ?_
            · intro w0
              go_simp
            refine wpAny_ready (rs := [0, 3]) (by kernel_rfl) (by simp) ?_
            refine AllReady.cons rfl (fun K hK => ?_) (AllReady.cons rfl (fun K hK => ?_) AllReady.nil)
            · skip
              go_simp
              refine hK _ _ ?_
              clear hK K
              have hE := own_base1 (empty_own1 X0 30 2) hX0.size
              have hX1 := hX0.alloc hX0.size (Obj.cells #[] 30)
              generalize X0.alloc (Obj.cells #[] 30) = X1 at *
              refine wpAny_ready (rs := [2, 3]) (by kernel_rfl) (by simp) ?_
              refine AllReady.cons rfl (fun K hK => ?_) (AllReady.cons rfl (fun K hK => ?_) AllReady.nil)
              · skip
                have hRD := (HR.out X1 hX1).reads
                simp only [List.getElem_toArray, List.getElem_cons_succ, List.getElem_cons_zero]
                rw [if_pos (by rfl)]
                refine wp_append_slice _ _ 28 rfl w1.heap.size 30 i0 _ 2 24 Tryd.underlying28 HI.out hz0 hz1 hz2 rfl (by decide) (some ⟨X0.heap.size, 0, none⟩) 0 0 [] rfl hE A rules.length c (rowsE ruleV rules) rfl hRD (rowsE_oneCell ruleV_oneCell rules) (by unfold maxLen; omega) (by omega) hX1.size ?_
                intro A5 c5 X2 hE5 hg
                refine hK _ _ ?_
                clear hK K
                have hX2 := hX1.grown hg hX1.size (fun k hk => (hE.lt k hk).1)
                clear hE hg hRD
                simp only [Nat.zero_add, List.nil_append] at hE5 ⊢
                have hE := hE5
                clear hE5
                refine wpAny_ready (rs := [3]) (by kernel_rfl) (by simp) ?_
                refine AllReady.cons rfl (fun K hK => ?_) AllReady.nil
                obtain ⟨b0, b1⟩ := HBX.out X2 hX2
                go_simp
                refine hK _ _ ?_
                clear hK K b0 b1
                refine wpAny_ready (rs := [4]) (by kernel_rfl) (by simp) ?_
                refine AllReady.cons rfl (fun K hK => ?_) AllReady.nil
                go_simp
                refine hK _ _ ?_
                clear hK K
                replace hE := hE.alloc (Obj.cells #[Value.bool ign, Value.string ⟨pat.toArray⟩] 30)
                have hq := heap_alloc_new X2 (Obj.cells #[Value.bool ign, Value.string ⟨pat.toArray⟩] 30)
                have hX3 := hX2.alloc hX2.size (Obj.cells #[Value.bool ign, Value.string ⟨pat.toArray⟩] 30)
                generalize X2.alloc (Obj.cells #[Value.bool ign, Value.string ⟨pat.toArray⟩] 30) = X3 at *
                refine wpAny_ready (rs := [5]) (by kernel_rfl) (by simp) ?_
                refine AllReady.cons rfl (fun K hK => ?_) AllReady.nil
                have hRD := reads_row hq
                simp only [List.getElem_toArray, List.getElem_cons_succ, List.getElem_cons_zero]
                rw [if_pos (by rfl)]
                refine wp_append_slice _ _ 28 rfl w1.heap.size 30 i0 _ 2 24 Tryd.underlying28 HI.out hz0 hz1 hz2 rfl (by decide) A5 rules.length c5 (rowsE ruleV rules) rfl hE (some ⟨X2.heap.size, 0, none⟩) 1 1 (ruleV ⟨pat, ign⟩) rfl hRD (ruleV_oneCell _) (by unfold maxLen; omega) (by omega) hX3.size ?_
                intro A6 c6 Y hE6 hg
                refine hK _ _ ?_
                clear hK K
                have hY := hX3.grown hg hX3.size (fun k hk => (hE.lt k hk).1)
                have hA6 := RulesAt.of_own (l := rules ++ [⟨pat, ign⟩]) (by rw [rowsE_append, rowsE_one]; exact hE6) (by simp)
                clear hE hg hRD hE6 hq
                refine wpAny_ready (rs := [6]) (by kernel_rfl) (by simp) ?_
                refine AllReady.cons rfl (fun K hK => ?_) AllReady.nil
                go_simp
                refine hK _ _ ?_
                clear hK K
                refine wpAny_done (by kernel_rfl) ?_ _
                go_wp2_with (fail)
                go_meet
                exact ⟨A6, c6, rfl, Lib.hid hA6, Lib.hid hY⟩
              · skip
                obtain ⟨b0, b1⟩ := HBX.out X1 hX1
                go_simp
                refine hK _ _ ?_
                clear hK K b0 b1
                refine wpAny_ready (rs := [2, 4]) (by kernel_rfl) (by simp) ?_
                refine AllReady.cons rfl (fun K hK => ?_) (AllReady.cons rfl (fun K hK => ?_) AllReady.nil)
                · skip
                  have hRD := (HR.out X1 hX1).reads
                  simp only [List.getElem_toArray, List.getElem_cons_succ, List.getElem_cons_zero]
                  rw [if_pos (by rfl)]
                  refine wp_append_slice _ _ 28 rfl w1.heap.size 30 i0 _ 2 24 Tryd.underlying28 HI.out hz0 hz1 hz2 rfl (by decide) (some ⟨X0.heap.size, 0, none⟩) 0 0 [] rfl hE A rules.length c (rowsE ruleV rules) rfl hRD (rowsE_oneCell ruleV_oneCell rules) (by unfold maxLen; omega) (by omega) hX1.size ?_
                  intro A5 c5 X2 hE5 hg
                  refine hK _ _ ?_
                  clear hK K
                  have hX2 := hX1.grown hg hX1.size (fun k hk => (hE.lt k hk).1)
                  clear hE hg hRD
                  simp only [Nat.zero_add, List.nil_append] at hE5 ⊢
                  have hE := hE5
                  clear hE5
                  refine wpAny_ready (rs := [4]) (by kernel_rfl) (by simp) ?_
                  refine AllReady.cons rfl (fun K hK => ?_) AllReady.nil
                  go_simp
                  refine hK _ _ ?_
                  clear hK K
                  replace hE := hE.alloc (Obj.cells #[Value.bool ign, Value.string ⟨pat.toArray⟩] 30)
                  have hq := heap_alloc_new X2 (Obj.cells #[Value.bool ign, Value.string ⟨pat.toArray⟩] 30)
                  have hX3 := hX2.alloc hX2.size (Obj.cells #[Value.bool ign, Value.string ⟨pat.toArray⟩] 30)
                  generalize X2.alloc (Obj.cells #[Value.bool ign, Value.string ⟨pat.toArray⟩] 30) = X3 at *
                  refine wpAny_ready (rs := [5]) (by kernel_rfl) (by simp) ?_
                  refine AllReady.cons rfl (fun K hK => ?_) AllReady.nil
                  have hRD := reads_row hq
                  simp only [List.getElem_toArray, List.getElem_cons_succ, List.getElem_cons_zero]
                  rw [if_pos (by rfl)]
                  refine wp_append_slice _ _ 28 rfl w1.heap.size 30 i0 _ 2 24 Tryd.underlying28 HI.out hz0 hz1 hz2 rfl (by decide) A5 rules.length c5 (rowsE ruleV rules) rfl hE (some ⟨X2.heap.size, 0, none⟩) 1 1 (ruleV ⟨pat, ign⟩) rfl hRD (ruleV_oneCell _) (by unfold maxLen; omega) (by omega) hX3.size ?_
                  intro A6 c6 Y hE6 hg
                  refine hK _ _ ?_
                  clear hK K
                  have hY := hX3.grown hg hX3.size (fun k hk => (hE.lt k hk).1)
                  have hA6 := RulesAt.of_own (l := rules ++ [⟨pat, ign⟩]) (by rw [rowsE_append, rowsE_one]; exact hE6) (by simp)
                  clear hE hg hRD hE6 hq
                  refine wpAny_ready (rs := [6]) (by kernel_rfl) (by simp) ?_
                  refine AllReady.cons rfl (fun K hK => ?_) AllReady.nil
                  go_simp
                  refine hK _ _ ?_
                  clear hK K
                  refine wpAny_done (by kernel_rfl) ?_ _
                  go_wp2_with (fail)
                  go_meet
                  exact ⟨A6, c6, rfl, Lib.hid hA6, Lib.hid hY⟩
                · skip
                  go_simp
                  refine hK _ _ ?_
                  clear hK K
                  have hlt0 : X0.heap.size < X1.heap.size := (hE.lt _ rfl).2
                  have hne : X1.heap.size ≠ X0.heap.size := by omega
                  replace hE := hE.alloc (Obj.cells #[Value.bool ign, Value.string ⟨pat.toArray⟩] 30)
                  have hq := heap_alloc_new X1 (Obj.cells #[Value.bool ign, Value.string ⟨pat.toArray⟩] 30)
                  have hX2 := hX1.alloc hX1.size (Obj.cells #[Value.bool ign, Value.string ⟨pat.toArray⟩] 30)
                  generalize X1.alloc (Obj.cells #[Value.bool ign, Value.string ⟨pat.toArray⟩] 30) = X2 at *
                  refine wpAny_ready (rs := [2]) (by kernel_rfl) (by simp) ?_
                  refine AllReady.cons rfl (fun K hK => ?_) AllReady.nil
                  have hRD := (HR.out X2 hX2).reads
                  simp only [List.getElem_toArray, List.getElem_cons_succ, List.getElem_cons_zero]
                  rw [if_pos (by rfl)]
                  refine wp_append_slice _ _ 28 rfl w1.heap.size 30 i0 _ 2 24 Tryd.underlying28 HI.out hz0 hz1 hz2 rfl (by decide) (some ⟨X0.heap.size, 0, none⟩) 0 0 [] rfl hE A rules.length c (rowsE ruleV rules) rfl hRD (rowsE_oneCell ruleV_oneCell rules) (by unfold maxLen; omega) (by omega) hX2.size ?_
                  intro A5 c5 X3 hE5 hg
                  refine hK _ _ ?_
                  clear hK K
                  have hX3 := hX2.grown hg hX2.size (fun k hk => (hE.lt k hk).1)
                  replace hq := (hg.block _ (lt_of_block hq) (fun e => hne (by injection e))).trans hq
                  clear hE hg hRD
                  simp only [Nat.zero_add, List.nil_append] at hE5 ⊢
                  have hE := hE5
                  clear hE5
                  refine wpAny_ready (rs := [5]) (by kernel_rfl) (by simp) ?_
                  refine AllReady.cons rfl (fun K hK => ?_) AllReady.nil
                  have hRD := reads_row hq
                  simp only [List.getElem_toArray, List.getElem_cons_succ, List.getElem_cons_zero]
                  rw [if_pos (by rfl)]
                  refine wp_append_slice _ _ 28 rfl w1.heap.size 30 i0 _ 2 24 Tryd.underlying28 HI.out hz0 hz1 hz2 rfl (by decide) A5 rules.length c5 (rowsE ruleV rules) rfl hE (some ⟨X1.heap.size, 0, none⟩) 1 1 (ruleV ⟨pat, ign⟩) rfl hRD (ruleV_oneCell _) (by unfold maxLen; omega) (by omega) hX3.size ?_
                  intro A6 c6 Y hE6 hg
                  refine hK _ _ ?_
                  clear hK K
                  have hY := hX3.grown hg hX3.size (fun k hk => (hE.lt k hk).1)
                  have hA6 := RulesAt.of_own (l := rules ++ [⟨pat, ign⟩]) (by rw [rowsE_append, rowsE_one]; exact hE6) (by simp)
                  clear hE hg hRD hE6 hq
                  refine wpAny_ready (rs := [6]) (by kernel_rfl) (by simp) ?_
                  refine AllReady.cons rfl (fun K hK => ?_) AllReady.nil
                  go_simp
                  refine hK _ _ ?_
                  clear hK K
                  refine wpAny_done (by kernel_rfl) ?_ _
                  go_wp2_with (fail)
                  go_meet
                  exact ⟨A6, c6, rfl, Lib.hid hA6, Lib.hid hY⟩
            · skip
              obtain ⟨b0, b1⟩ := HBX.out X0 hX0
              go_simp
              refine hK _ _ ?_
              clear hK K b0 b1
              refine wpAny_ready (rs := [0, 4]) (by kernel_rfl) (by simp) ?_
              refine AllReady.cons rfl (fun K hK => ?_) (AllReady.cons rfl (fun K hK => ?_) AllReady.nil)
              · skip
                go_simp
                refine hK _ _ ?_
                clear hK K
                have hE := own_base1 (empty_own1 X0 30 2) hX0.size
                have hX1 := hX0.alloc hX0.size (Obj.cells #[] 30)
                generalize X0.alloc (Obj.cells #[] 30) = X1 at *
                refine wpAny_ready (rs := [2, 4]) (by kernel_rfl) (by simp) ?_
                refine AllReady.cons rfl (fun K hK => ?_) (AllReady.cons rfl (fun K hK => ?_) AllReady.nil)
                · skip
                  have hRD := (HR.out X1 hX1).reads
                  simp only [List.getElem_toArray, List.getElem_cons_succ, List.getElem_cons_zero]
                  rw [if_pos (by rfl)]
                  refine wp_append_slice _ _ 28 rfl w1.heap.size 30 i0 _ 2 24 Tryd.underlying28 HI.out hz0 hz1 hz2 rfl (by decide) (some ⟨X0.heap.size, 0, none⟩) 0 0 [] rfl hE A rules.length c (rowsE ruleV rules) rfl hRD (rowsE_oneCell ruleV_oneCell rules) (by unfold maxLen; omega) (by omega) hX1.size ?_
                  intro A5 c5 X2 hE5 hg
                  refine hK _ _ ?_
                  clear hK K
                  have hX2 := hX1.grown hg hX1.size (fun k hk => (hE.lt k hk).1)
                  clear hE hg hRD
                  simp only [Nat.zero_add, List.nil_append] at hE5 ⊢
                  have hE := hE5
                  clear hE5
                  refine wpAny_ready (rs := [4]) (by kernel_rfl) (by simp) ?_
                  refine AllReady.cons rfl (fun K hK => ?_) AllReady.nil
                  go_simp
                  refine hK _ _ ?_
                  clear hK K
                  replace hE := hE.alloc (Obj.cells #[Value.bool ign, Value.string ⟨pat.toArray⟩] 30)
                  have hq := heap_alloc_new X2 (Obj.cells #[Value.bool ign, Value.string ⟨pat.toArray⟩] 30)
                  have hX3 := hX2.alloc hX2.size (Obj.cells #[Value.bool ign, Value.string ⟨pat.toArray⟩] 30)
                  generalize X2.alloc (Obj.cells #[Value.bool ign, Value.string ⟨pat.toArray⟩] 30) = X3 at *
                  refine wpAny_ready (rs := [5]) (by kernel_rfl) (by simp) ?_
                  refine AllReady.cons rfl (fun K hK => ?_) AllReady.nil
                  have hRD := reads_row hq
                  simp only [List.getElem_toArray, List.getElem_cons_succ, List.getElem_cons_zero]
                  rw [if_pos (by rfl)]
                  refine wp_append_slice _ _ 28 rfl w1.heap.size 30 i0 _ 2 24 Tryd.underlying28 HI.out hz0 hz1 hz2 rfl (by decide) A5 rules.length c5 (rowsE ruleV rules) rfl hE (some ⟨X2.heap.size, 0, none⟩) 1 1 (ruleV ⟨pat, ign⟩) rfl hRD (ruleV_oneCell _) (by unfold maxLen; omega) (by omega) hX3.size ?_
                  intro A6 c6 Y hE6 hg
                  refine hK _ _ ?_
                  clear hK K
                  have hY := hX3.grown hg hX3.size (fun k hk => (hE.lt k hk).1)
                  have hA6 := RulesAt.of_own (l := rules ++ [⟨pat, ign⟩]) (by rw [rowsE_append, rowsE_one]; exact hE6) (by simp)
                  clear hE hg hRD hE6 hq
                  refine wpAny_ready (rs := [6]) (by kernel_rfl) (by simp) ?_
                  refine AllReady.cons rfl (fun K hK => ?_) AllReady.nil
                  go_simp
                  refine hK _ _ ?_
                  clear hK K
                  refine wpAny_done (by kernel_rfl) ?_ _
                  go_wp2_with (fail)
                  go_meet
                  exact ⟨A6, c6, rfl, Lib.hid hA6, Lib.hid hY⟩
                · skip
                  go_simp
                  refine hK _ _ ?_
                  clear hK K
                  have hlt0 : X0.heap.size < X1.heap.size := (hE.lt _ rfl).2
                  have hne : X1.heap.size ≠ X0.heap.size := by omega
                  replace hE := hE.alloc (Obj.cells #[Value.bool ign, Value.string ⟨pat.toArray⟩] 30)
                  have hq := heap_alloc_new X1 (Obj.cells #[Value.bool ign, Value.string ⟨pat.toArray⟩] 30)
                  have hX2 := hX1.alloc hX1.size (Obj.cells #[Value.bool ign, Value.string ⟨pat.toArray⟩] 30)
                  generalize X1.alloc (Obj.cells #[Value.bool ign, Value.string ⟨pat.toArray⟩] 30) = X2 at *
                  refine wpAny_ready (rs := [2]) (by kernel_rfl) (by simp) ?_
                  refine AllReady.cons rfl (fun K hK => ?_) AllReady.nil
                  have hRD := (HR.out X2 hX2).reads
                  simp only [List.getElem_toArray, List.getElem_cons_succ, List.getElem_cons_zero]
                  rw [if_pos (by rfl)]
                  refine wp_append_slice _ _ 28 rfl w1.heap.size 30 i0 _ 2 24 Tryd.underlying28 HI.out hz0 hz1 hz2 rfl (by decide) (some ⟨X0.heap.size, 0, none⟩) 0 0 [] rfl hE A rules.length c (rowsE ruleV rules) rfl hRD (rowsE_oneCell ruleV_oneCell rules) (by unfold maxLen; omega) (by omega) hX2.size ?_
                  intro A5 c5 X3 hE5 hg
                  refine hK _ _ ?_
                  clear hK K
                  have hX3 := hX2.grown hg hX2.size (fun k hk => (hE.lt k hk).1)
                  replace hq := (hg.block _ (lt_of_block hq) (fun e => hne (by injection e))).trans hq
                  clear hE hg hRD
                  simp only [Nat.zero_add, List.nil_append] at hE5 ⊢
                  have hE := hE5
                  clear hE5
                  refine wpAny_ready (rs := [5]) (by kernel_rfl) (by simp) ?_
                  refine AllReady.cons rfl (fun K hK => ?_) AllReady.nil
                  have hRD := reads_row hq
                  simp only [List.getElem_toArray, List.getElem_cons_succ, List.getElem_cons_zero]
                  rw [if_pos (by rfl)]
                  refine wp_append_slice _ _ 28 rfl w1.heap.size 30 i0 _ 2 24 Tryd.underlying28 HI.out hz0 hz1 hz2 rfl (by decide) A5 rules.length c5 (rowsE ruleV rules) rfl hE (some ⟨X1.heap.size, 0, none⟩) 1 1 (ruleV ⟨pat, ign⟩) rfl hRD (ruleV_oneCell _) (by unfold maxLen; omega) (by omega) hX3.size ?_
                  intro A6 c6 Y hE6 hg
                  refine hK _ _ ?_
                  clear hK K
                  have hY := hX3.grown hg hX3.size (fun k hk => (hE.lt k hk).1)
                  have hA6 := RulesAt.of_own (l := rules ++ [⟨pat, ign⟩]) (by rw [rowsE_append, rowsE_one]; exact hE6) (by simp)
                  clear hE hg hRD hE6 hq
                  refine wpAny_ready (rs := [6]) (by kernel_rfl) (by simp) ?_
                  refine AllReady.cons rfl (fun K hK => ?_) AllReady.nil
                  go_simp
                  refine hK _ _ ?_
                  clear hK K
                  refine wpAny_done (by kernel_rfl) ?_ _
                  go_wp2_with (fail)
                  go_meet
                  exact ⟨A6, c6, rfl, Lib.hid hA6, Lib.hid hY⟩
              · skip
                go_simp
                refine hK _ _ ?_
                clear hK K
                have hq := heap_alloc_new X0 (Obj.cells #[Value.bool ign, Value.string ⟨pat.toArray⟩] 30)
                have hX1 := hX0.alloc hX0.size (Obj.cells #[Value.bool ign, Value.string ⟨pat.toArray⟩] 30)
                generalize X0.alloc (Obj.cells #[Value.bool ign, Value.string ⟨pat.toArray⟩] 30) = X1 at *
                refine wpAny_ready (rs := [0]) (by kernel_rfl) (by simp) ?_
                refine AllReady.cons rfl (fun K hK => ?_) AllReady.nil
                go_simp
                refine hK _ _ ?_
                clear hK K
                have hE := own_base1 (empty_own1 X1 30 2) hX1.size
                have hX2 := hX1.alloc hX1.size (Obj.cells #[] 30)
                have hne : X0.heap.size ≠ X1.heap.size := by have := lt_of_block hq; omega
                replace hq := (heap_alloc_old X1 (Obj.cells #[] 30) (lt_of_block hq)).trans hq
                generalize X1.alloc (Obj.cells #[] 30) = X2 at *
                refine wpAny_ready (rs := [2]) (by kernel_rfl) (by simp) ?_
                refine AllReady.cons rfl (fun K hK => ?_) AllReady.nil
                have hRD := (HR.out X2 hX2).reads
                simp only [List.getElem_toArray, List.getElem_cons_succ, List.getElem_cons_zero]
                rw [if_pos (by rfl)]
                refine wp_append_slice _ _ 28 rfl w1.heap.size 30 i0 _ 2 24 Tryd.underlying28 HI.out hz0 hz1 hz2 rfl (by decide) (some ⟨X1.heap.size, 0, none⟩) 0 0 [] rfl hE A rules.length c (rowsE ruleV rules) rfl hRD (rowsE_oneCell ruleV_oneCell rules) (by unfold maxLen; omega) (by omega) hX2.size ?_
                intro A5 c5 X3 hE5 hg
                refine hK _ _ ?_
                clear hK K
                have hX3 := hX2.grown hg hX2.size (fun k hk => (hE.lt k hk).1)
                replace hq := (hg.block _ (lt_of_block hq) (fun e => hne (by injection e))).trans hq
                clear hE hg hRD
                simp only [Nat.zero_add, List.nil_append] at hE5 ⊢
                have hE := hE5
                clear hE5
                refine wpAny_ready (rs := [5]) (by kernel_rfl) (by simp) ?_
                refine AllReady.cons rfl (fun K hK => ?_) AllReady.nil
                have hRD := reads_row hq
                simp only [List.getElem_toArray, List.getElem_cons_succ, List.getElem_cons_zero]
                rw [if_pos (by rfl)]
                refine wp_append_slice _ _ 28 rfl w1.heap.size 30 i0 _ 2 24 Tryd.underlying28 HI.out hz0 hz1 hz2 rfl (by decide) A5 rules.length c5 (rowsE ruleV rules) rfl hE (some ⟨X0.heap.size, 0, none⟩) 1 1 (ruleV ⟨pat, ign⟩) rfl hRD (ruleV_oneCell _) (by unfold maxLen; omega) (by omega) hX3.size ?_
                intro A6 c6 Y hE6 hg
                refine hK _ _ ?_
                clear hK K
                have hY := hX3.grown hg hX3.size (fun k hk => (hE.lt k hk).1)
                have hA6 := RulesAt.of_own (l := rules ++ [⟨pat, ign⟩]) (by rw [rowsE_append, rowsE_one]; exact hE6) (by simp)
                clear hE hg hRD hE6 hq
                refine wpAny_ready (rs := [6]) (by kernel_rfl) (by simp) ?_
                refine AllReady.cons rfl (fun K hK => ?_) AllReady.nil
                go_simp
                refine hK _ _ ?_
                clear hK K
                refine wpAny_done (by kernel_rfl) ?_ _
                go_wp2_with (fail)
                go_meet
                exact ⟨A6, c6, rfl, Lib.hid hA6, Lib.hid hY⟩
          case rest =>
            obtain ⟨A6, c6, rfl, HA6, HBD⟩ := hcut
            have hml : (rules ++ [(⟨pat, ign⟩ : Rule)]).length = rules.length + 1 := by simp
            have HIM := Lib.hid (fun (q : List UInt8) W (h : Below wc.heap.size wc W) (hq : q.length ≤ s.length) => HIG.out (rules ++ [⟨pat, ign⟩]) A6 c6 q W (HBD.out.trans (h.mono HBD.out.size)) (HA6.out.below h) (by rw [hml]; omega) (by omega))
            rw [hml] at HIM
            have HLS := Lib.hid (fun hu hm => ignG_last (l := rules) (r := ⟨pat, ign⟩) HOK.out hu hm)
            have HU := Lib.hid (fun (q : List UInt8) (h : pathOK q = true) (hne : parentM q ≠ []) (hi : ignG (rules ++ [(⟨pat, ign⟩ : Rule)]) (parentM q) = true) => ignG_up (rules ++ [⟨pat, ign⟩]) (s := q) h hne hi)
            have HPO := Lib.hid (fun hne => parent_ok (s := s) HOK.out hne)
            have HPL := Lib.hid (show (parentM s).length ≤ s.length by
              by_cases e : parentM s = []
              · rw [e]; simp
              · exact Nat.le_of_lt (parent_shorter HOK.out e))
            have HPS := Lib.hid (HPA.out s wc (Nat.le_refl _))
            have HWC := Lib.hid HBD
            clear hml HIG
            generalize rules ++ [(⟨pat, ign⟩ : Rule)] = M at *
            generalize hps : parentM s = ps at *
            have HPP := Lib.hid hps
            clear hps
            go_wp2_with (fail)
            refine HPS.out.mono ?_
            rintro e w7 ⟨rfl, hw7⟩
            have HB7 := Lib.hid hw7
            clear hw7
            go_wp2_with (fail)
            go_loopw [11] (fun t11 W => ∃ q : List UInt8, t11 = .string ⟨q.toArray⟩ ∧ q.length ≤ s.length ∧ Hid ((q ≠ [] → pathOK q = true ∧ (ignG M q = true → ignG M s = true)) ∧ (q = ps ∨ ps = [] ∨ ignG M ps = false)) ∧ Hid (Below wc.heap.size wc W)) (fun t11 _ => strLenG t11)
            case atStart => exact ⟨ps, rfl, HPL.out, Lib.hid ⟨fun h => ⟨HPO.out h, fun h2 => HU.out s HOK.out (by rw [HPP.out]; exact h) (by rw [HPP.out]; exact h2)⟩, .inl rfl⟩, HB7⟩
            case round =>
              clear HB7
              obtain ⟨q, rfl, hql, HQ, HB⟩ := hrel
              have HBW := Lib.hid (HBD.out.trans (HB.out.mono HBD.out.size))
              by_cases hq0 : q = []
              · have hfin : ps = [] ∨ ignG M ps = false := by
                  rcases HQ.out.2 with e | e | e
                  · left; rw [← e]; exact hq0
                  · exact .inl e
                  · exact .inr e
                have HFIN := Lib.hid hfin
                obtain ⟨b0, b1⟩ := HBX.out wr HBW.out
                have HC0 := Lib.hid (fun W (h : Below wr.heap.size wr W) => (h.cell (p := ⟨wb.heap.size, 0, none⟩) (World.block_lt_of_cell? _ _ b0)).trans b0)
                have HC1 := Lib.hid (fun W (h : Below wr.heap.size wr W) => (h.cell (p := ⟨wb.heap.size, 1, none⟩) (World.block_lt_of_cell? _ _ b1)).trans b1)
                have HMW := Lib.hid (fun W (h : Below wr.heap.size wr W) => HMT.out s W (HBW.out.trans (h.mono HBW.out.size)))
                have HIW := Lib.hid (fun W (h : Below wr.heap.size wr W) => HIM.out s W (HB.out.trans (h.mono HB.out.size)) (Nat.le_refl _))
                subst hq0
                clear hfin b0 b1
                cases hm : matchG pat s with
                | true =>
                  have hI := HLS.out HFIN.out hm
                  have hMW := HMW.out
                  have hIW := HIW.out
                  rw [hm] at hMW
                  rw [hI] at hIW
                  have HM2 := Lib.hid hMW
                  have HI2 := Lib.hid hIW
                  clear hI hMW hIW hm HMW HIW
                  go_wp2_with (fail)
                  refine wp_region_in (C := fun W => Below wr.heap.size wr W) (by kernel_rfl) (by kernel_rfl) (Below.refl _ _).drew ?_
                  repeat (first | go_big_quiet_step ((first | (intro hW; go_at_call 9; exact (HM2.out _ hW).mono fun _ _ ⟨he, hb⟩ => ⟨he, hW.trans (hb.mono hW.size)⟩) | (intro hW; go_at_call 13; exact (HI2.out _ hW).mono fun _ _ ⟨he, hb⟩ => ⟨he, hW.trans (hb.mono hW.size)⟩))) | (go_big_quiet_want; (first | (refine quiet_load_in _ _ rfl ⟨wb.heap.size, 1, none⟩ rfl _ _ HC1.out Tryd.underlying9 rfl ?_) | (refine quiet_load_in _ _ rfl ⟨wb.heap.size, 0, none⟩ rfl _ _ HC0.out Tryd.underlying4 rfl ?_)); simp only [Act.put, List.setIfInBounds_toArray, List.set_cons_succ, List.set_cons_zero]; go_big_quiet_on))
                  refine wpQuiet_nil ?_
                  intro W8 hW8
                  go_wp2_with (fail)
                  go_ret
                  exact ⟨by simp, (HB01.out.trans (HBW.out.mono HB01.out.size)).trans (hW8.mono (HB01.out.trans (HBW.out.mono HB01.out.size)).size)⟩
                | false =>
                  have hMW := HMW.out
                  rw [hm] at hMW
                  have HM2 := Lib.hid hMW
                  clear hMW hm HMW HIW
                  go_wp2_with (fail)
                  refine wp_region_in (C := fun W => Below wr.heap.size wr W) (by kernel_rfl) (by kernel_rfl) (Below.refl _ _).drew ?_
                  repeat (first | go_big_quiet_step ((intro hW; go_at_call 9; exact (HM2.out _ hW).mono fun _ _ ⟨he, hb⟩ => ⟨he, hW.trans (hb.mono hW.size)⟩)) | (go_big_quiet_want; (refine quiet_load_in _ _ rfl ⟨wb.heap.size, 1, none⟩ rfl _ _ HC1.out Tryd.underlying9 rfl ?_); simp only [Act.put, List.setIfInBounds_toArray, List.set_cons_succ, List.set_cons_zero]; go_big_quiet_on))
                  refine wpQuiet_nil ?_
                  intro W8 hW8
                  go_wp2_with (fail)
                  go_ret
                  exact ⟨rfl, (HB01.out.trans (HBW.out.mono HB01.out.size)).trans (hW8.mono (HB01.out.trans (HBW.out.mono HB01.out.size)).size)⟩
              · obtain ⟨hqok, hqi⟩ := HQ.out.1 hq0
                have hne : q.isEmpty = false := by cases q; exact absurd rfl hq0; rfl
                have hIQ := HIM.out q wr HB.out hql
                cases hig : ignG M q with
                | true =>
                  rw [hig] at hIQ
                  have HIQ := Lib.hid hIQ
                  have hIS := fun W h => HIM.out s W h (Nat.le_refl _)
                  rw [hqi hig] at hIS
                  have HIS := Lib.hid hIS
                  clear hIQ hIS hqi hqok hq0 hig
                  go_wp2_with (fail)
                  refine HIQ.out.mono ?_
                  rintro e w8 ⟨rfl, hw8⟩
                  have hB8 := HB.out.trans (hw8.mono HB.out.size)
                  have HBW8 := Lib.hid (HBW.out.trans (hw8.mono HBW.out.size))
                  clear hw8
                  go_wp2_with (fail)
                  refine (HIS.out _ hB8).mono ?_
                  rintro e w9 ⟨rfl, hw9⟩
                  go_wp2_with (fail)
                  go_ret
                  exact ⟨rfl, (HB01.out.trans (HBW8.out.mono HB01.out.size)).trans (hw9.mono (HB01.out.trans (HBW8.out.mono HB01.out.size)).size)⟩
                | false =>
                  rw [hig] at hIQ
                  have HIQ := Lib.hid hIQ
                  have hpl : (parentM q).length < q.length := by
                    by_cases e : parentM q = []
                    · rw [e]; exact List.length_pos_iff.2 hq0
                    · exact parent_shorter hqok e
                  have HN := Lib.hid (show (parentM q ≠ [] → pathOK (parentM q) = true ∧ (ignG M (parentM q) = true → ignG M s = true)) ∧ (parentM q = ps ∨ ps = [] ∨ ignG M ps = false) from
                    ⟨fun e => ⟨parent_ok hqok e, fun h => hqi (HU.out q hqok e h)⟩, by
                      rcases HQ.out.2 with e | e | e
                      · right; right; rw [← e]; exact hig
                      · exact .inr (.inl e)
                      · exact .inr (.inr e)⟩)
                  have HPQ := Lib.hid (fun W => HPA.out q W hql)
                  clear hIQ hqi hqok hq0 hig
                  generalize parentM q = pq at *
                  go_wp2_with (fail)
                  refine HIQ.out.mono ?_
                  rintro e w8 ⟨rfl, hw8⟩
                  have hB8 := HB.out.trans (hw8.mono HB.out.size)
                  clear hw8
                  go_wp2_with (fail)
                  refine (HPQ.out _).mono ?_
                  rintro e w9 ⟨rfl, hw9⟩
                  have HB9 := Lib.hid (hB8.trans (hw9.mono hB8.size))
                  clear hw9 hB8
                  go_wp2_with (fail)
                  go_roundw
                  case rel => exact ⟨pq, rfl, by omega, HN, HB9⟩
                  case measure => simp [strLenG, ByteArray.size]; exact hpl

open Go.ChangeShapes Go.WideShapes Go.ChangeAt in
/-- What the walk gives, for every argument. -/
theorem GlobBelow_contract (H : Type) (enc : TypeId × Value → H) (W : World) (base : Nat) (args : Array Value) (ds gs : List (DataW H)) (before : List MemPlace)
    (hval : ∀ (j : Nat) t v, Tryd.f5.params[j]? = some t → args[j]? = some v → Value.okWide Tryd.prog W .any base t v)
    (hW : DataW.Whole enc Tryd.prog Tryd.f5.params.toList Rows.globBelowSpec.vars false W args.toList ds gs before) (hL : laidMetH Tryd.prog Rows.globBelowRow.laid W) (hS : W.ShapedOpen Tryd.prog) (hk : Rows.uptoSmall H (ds ++ gs) = true) :
    Calls Tryd.prog 5 args W fun e W' => ∃ v, e = .returned v ∧ Rows.globBelowSpec.post enc Tryd.prog Tryd.f5 false true false false W args v W' := by
  have hW' := hW
  obtain ⟨p, q, hA0, hV, rfl, hfz, hnd⟩ := hW
  have hA : DataW.TrodAll enc Tryd.prog W 0 (fun _ => true) true Tryd.f5.params.toList args.toList ds p := hA0
  rw [Tryd.params5] at hA hval
  obtain ⟨v0, vs0, d0, ds0, p0, q0, hargs, rfl, rfl, h0, r0⟩ := trodAll_cons hA
  obtain ⟨v1, vs1, d1, ds1, p1, q1, rfl, rfl, rfl, h1, r1⟩ := trodAll_cons r0
  obtain ⟨v2, vs2, d2, ds2, p2, q2, rfl, rfl, rfl, h2, r2⟩ := trodAll_cons r1
  obtain ⟨rfl, rfl, rfl⟩ := trodAll_nil r2
  obtain rfl : args = #[v0, v1, v2] := by cases args; simp_all
  obtain ⟨rfl, rfl⟩ := trodVars_none hV
  obtain ⟨A0, c0, x0, rfl, hc0, hm0, ks0, kd0, kw0⟩ := open_rules (hval 0 28 v0 rfl rfl) h0
  obtain ⟨x1, rfl, rfl, rfl, k1⟩ := ChangeMaps.open_string Tryd.underlying9 (hval 1 9 v1 rfl rfl) h1
  have k1 : x1.data.toList.length ≤ 9223372036854775807 := by unfold maxLen at k1; simpa using k1
  obtain ⟨n2, b2, q2, rfl, kn2⟩ := open_next (hval 2 32 v2 rfl rfl) h2
  clear hA0
  have hbulk := bulk_bound hk
  simp only [List.cons_append, List.nil_append, List.append_nil, Rows.uptoBulkAll] at hbulk
  obtain ⟨m, hm⟩ := laid_of hL hS
  simp only [Rows.uptoBulk, Rows.uptoBulkAll] at hbulk
  have hsl := sum_ge x0 (fun o => o.pat.length + 1) (by simp)
  have hs1 : x1.data.toList.length ≤ 1048576 := by omega
  refine (GlobBelow_any x0 A0 c0 x1.data.toList n2 b2 q2 m W hm ks0 hc0 (by omega) (by omega) (by omega)).mono ?_
  exact fun e W' ⟨he, hb⟩ => ⟨_, he, law_post rfl hW' rfl (by kernel_rfl) Tryd.underlying4 (by kernel_rfl) laidOut hb⟩

open Go.ChangeShapes Go.WideShapes Go.ChangeAt in
theorem GlobBelow_met (os : Os) : laidMet Tryd.prog Rows.globBelowUptoRow.laid ((laidWorld os).forCall (fun _ _ => 0) ⟨#[], #[.slice none 0 0, .string ⟨#[]⟩, .agg #[.string ⟨#[]⟩, .bool false, .string ⟨#[]⟩]], []⟩).memory :=
  laidMet_of_run' 8 (by kernel_rfl) (by kernel_rfl)
open Go.ChangeShapes Go.WideShapes Go.ChangeAt in
theorem GlobBelow_reads (os : Os) {H : Type} (enc : TypeId × Value → H) : ∃ places, DataW.whole enc Tryd.prog ((laidWorld os).forCall (fun _ _ => 0) ⟨#[], #[.slice none 0 0, .string ⟨#[]⟩, .agg #[.string ⟨#[]⟩, .bool false, .string ⟨#[]⟩]], []⟩).memory Tryd.f5.params.toList Rows.globBelowSpec.vars false #[.slice none 0 0, .string ⟨#[]⟩, .agg #[.string ⟨#[]⟩, .bool false, .string ⟨#[]⟩]].toList 8 = some ([.nil, .lit (.string []), .agg [.lit (.string []), .agg [.lit (.bool false), .lit (.string [])]]], [], places) :=
  ⟨[], by kernel_rfl⟩

open Go.ChangeShapes Go.WideShapes Go.ChangeAt in
set_option maxRecDepth 100000 in
theorem GlobBelow_lifted (os : Os) (started : os.Started) (H : Type) (enc : TypeId × Value → H) (F : Stop.Interp) :
    ReturnsInHanded {} Tryd.checked os 5 .any ((Rows.OpenSpec.upto Rows.globBelowSpec).preRow enc Tryd.prog Tryd.f5 Rows.globBelowUptoRow.domain false Rows.globBelowUptoRow.laid) (((Rows.OpenSpec.upto Rows.globBelowSpec).at F).post enc Tryd.prog Tryd.f5 false true false false) := by
  obtain ⟨places, hx⟩ := GlobBelow_reads os enc
  refine returnsInHanded_of_row (C := Tryd.checked) (s := Rows.OpenSpec.upto Rows.globBelowSpec) own started (by kernel_rfl) Tryd.func5
    (witness_row_at (enc := enc) (C := Tryd.checked) false (laidWorld os) #[.slice none 0 0, .string ⟨#[]⟩, .agg #[.string ⟨#[]⟩, .bool false, .string ⟨#[]⟩]] rfl (by kernel_rfl) (by kernel_rfl) (by kernel_rfl)
      (OpenSpec.preRow_of_cond 8 hx (by kernel_rfl) (fun k hk => by cases hk; kernel_rfl) (by kernel_rfl) (GlobBelow_met os))) ?_
  intro W base args ds gs before hval hW _ hcond _ hL hS _
  exact GlobBelow_contract H enc W base args ds gs before hval hW hL hS (hcond _ rfl)

theorem GlobBelow_said : Rows.GlobBelowUptoSaid :=
  OpenClaim.holds_of_cond 5 Tryd.f5 rfl rfl rfl rfl rfl rfl rfl ⟨rfl, rfl, rfl, rfl, rfl⟩ rfl rfl rfl rfl rfl (by kernel_rfl) Tryd.func5 (by kernel_rfl)
    (of_decide_eq_true (by kernel_rfl)) (by unfold Func.isWrapper; first | (rw [if_pos (by decide +kernel)]; kernel_rfl) | (rw [if_neg (by decide +kernel)]; exact ⟨rfl, rfl⟩))
    (fun os started H enc _ F => by rw [OpenClaim.pre_eq_preRow]; exact GlobBelow_lifted os started H enc F)

theorem GlobBelow_holds : Rows.GlobBelowUptoCardSaid :=
  Claim7.holds_tied_plain_at .later [] _ _ _ _ GlobBelow_said (fun _ h => by cases h) (by kernel_rfl) (fun _ h => by cases h) globBelowUpto_row_tie rfl ⟨rfl, rfl⟩ (by kernel_rfl) rfl
    (card_plain (f0 := 5) (fn0 := Tryd.f5) (by kernel_rfl) Tryd.func5 (by kernel_rfl) (by kernel_rfl)) (by kernel_rfl)
end Go.Proofs.YtgppfcaghjbjmaaDoor
