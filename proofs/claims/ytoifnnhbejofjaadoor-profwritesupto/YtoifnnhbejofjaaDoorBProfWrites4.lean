/- Texts joined: ProfW2, Builder. -/
import Derived.Test.YtoifnnhbejofjaaDoorBProfWrites3
import Derived.Test.YtoifnnhbejofjaaDoorBProfBaseA1
import Derived.Lib.FrozenHead2
import Derived.Lib.OthersKept
import Derived.Lib.UnsafeStr
import Derived.Test.YtoifnnhbejofjaaDoorShelf
set_option linter.unusedSimpArgs false
set_option linter.unusedVariables false

/- The document's Print. -/
section
set_option linter.unusedVariables false
namespace Go.Proofs.YtoifnnhbejofjaaDoor
open Go.RowKit Plain

theorem rulesL_length (yes no : List UInt8) (hy : yes.length ≤ 100) (hn : no.length ≤ 100) : ∀ l : List Rule, (∀ r ∈ l, r.pat.length ≤ 1048576) → (rulesL yes no l).length ≤ l.length * 1048678
  | [], _ => by simp [rulesL]
  | r :: l, h => by
    have h1 := h r (by simp)
    have h2 := rulesL_length yes no hy hn l (fun x hx => h x (by simp [hx]))
    have e : rulesL yes no (r :: l) = ruleL yes no r ++ rulesL yes no l := by simp [rulesL]
    rw [e, List.length_append, List.length_cons]
    have : (ruleL yes no r).length ≤ 1048678 := by
      unfold ruleL
      cases r.ign <;> simp <;> omega
    omega
theorem rrulesP_length (yes no : List UInt8) (hy : yes.length ≤ 100) (hn : no.length ≤ 100) (l : List Rule) (h : ∀ r ∈ l, r.pat.length ≤ 1048576) : (rrulesP yes no l).1.length ≤ l.length * 1048678 := by
  unfold rrulesP
  split
  · exact rulesL_length yes no hy hn l h
  · simp
theorem sidedL_length (wd : List UInt8) (n : Int) : (sidedL wd n).length ≤ wd.length + 3 := by
  unfold sidedL
  split
  · simp
  · split <;> simp
theorem rrulesP_ok (yes no : List UInt8) (l : List Rule) : (rrulesP yes no l).2 = okRules l ∧ ((rrulesP yes no l).2 = true → (rrulesP yes no l).1 = rulesL yes no l) := by
  unfold rrulesP okRules
  cases h : l.all (fun r => plainS r.pat) <;> simp
theorem print_no {p : PF} (h : printable p = false) : printP p = ([], 80) := by unfold printP; rw [h]; rfl
theorem print_yes {p : PF} (h : printable p = true) : printP p = (textP p, 0) := by unfold printP; rw [if_pos h]
/-- A profile whose parts are not too long. -/
structure SizeP (p : PF) : Prop where
  ign : p.ign.length ≤ 1048576 ∧ ∀ r ∈ p.ign, r.pat.length ≤ 1048576
  bak : p.bak.length ≤ 1048576 ∧ ∀ r ∈ p.bak, r.pat.length ≤ 1048576
  mrg : p.mrg.length ≤ 1048576 ∧ ∀ r ∈ p.mrg, r.name.length ≤ 1048576 ∧ r.pat.length ≤ 1048576

set_option maxHeartbeats 8000000 in
set_option maxRecDepth 100000 in
theorem rprint_any (p : PF) (A0 : Option Addr) (c0 : Nat) (A1 : Option Addr) (c1 : Nat) (A2 : Option Addr) (c2 : Nat) (w : World) (h : PfAt w A0 c0 A1 c1 A2 c2 p) (hs : SizeP p) :
    Calls Tryd.prog 11 #[pfV A0 c0 A1 c1 A2 c2 p] w (Ret w (.tuple #[.string ⟨(printP p).1.toArray⟩, .int .i64 ((printP p).2 : Nat)])) := by
  have HS1 := Lib.hid (fun W => rsided_any wPrefer p.pre W (by decide))
  have HS2 := Lib.hid (fun W => rsided_any wForce p.frc W (by decide))
  have HR1 := Lib.hid (fun W (hW : Below w.heap.size w W) => rrules_any wIgnore wKeep p.ign A0 c0 W (h.ign.below hW) (by decide) (by decide) hs.ign.1 hs.ign.2)
  have HR2 := Lib.hid (fun W (hW : Below w.heap.size w W) => rrules_any wBackup wDrop p.bak A1 c1 W (h.bak.below hW) (by decide) (by decide) hs.bak.1 hs.bak.2)
  have HM := Lib.hid (fun W (hW : Below w.heap.size w W) => h.mrg.below hW)
  have HML := Lib.hid hs.mrg.2
  have hml := hs.mrg.1
  have k1 := rrulesP_length wIgnore wKeep (by decide) (by decide) p.ign hs.ign.2
  have k2 := rrulesP_length wBackup wDrop (by decide) (by decide) p.bak hs.bak.2
  have j1 := hs.ign.1
  have j2 := hs.bak.1
  have m1 : (sidedL wPrefer p.pre).length ≤ 9 := sidedL_length wPrefer p.pre
  have m2 : (sidedL wForce p.frc).length ≤ 8 := sidedL_length wForce p.frc
  have o1 := rrulesP_ok wIgnore wKeep p.ign
  have o2 := rrulesP_ok wBackup wDrop p.bak
  have l1 : (rrulesP wIgnore wKeep p.ign).1.length ≤ 2199023255552 := by omega
  have l2 : (rrulesP wBackup wDrop p.bak).1.length ≤ 2199023255552 := by omega
  have hpr : printable p = (okNat p.pre && okNat p.frc && okRules p.ign && okRules p.bak && okProgs p.mrg) := rfl
  have htx : textP p = headL p ++ sidedL wPrefer p.pre ++ sidedL wForce p.frc ++ rulesL wIgnore wKeep p.ign ++ rulesL wBackup wDrop p.bak ++ progsL p.mrg := rfl
  have hhd : headL p = (if p.bat then wBatch ++ [10] else []) ++ (if p.fst then wFast ++ [10] else []) := rfl
  have hno := @print_no p
  have hyes := @print_yes p
  rw [← o1.1, ← o2.1] at hpr
  have o3 := o1.2
  have o4 := o2.2
  clear k1 k2 j1 j2 o1 o2 hs h
  change Hid (∀ W, Calls Tryd.prog 24 #[.string ⟨#[112, 114, 101, 102, 101, 114]⟩, .int .i64 p.pre] W _) at HS1
  change Hid (∀ W, Calls Tryd.prog 24 #[.string ⟨#[102, 111, 114, 99, 101]⟩, .int .i64 p.frc] W _) at HS2
  change Hid (∀ W, _ → Calls Tryd.prog 25 #[.slice A0 p.ign.length c0, .string ⟨#[105, 103, 110, 111, 114, 101]⟩, .string ⟨#[107, 101, 101, 112]⟩] W _) at HR1
  change Hid (∀ W, _ → Calls Tryd.prog 25 #[.slice A1 p.bak.length c1, .string ⟨#[98, 97, 99, 107, 117, 112]⟩, .string ⟨#[100, 114, 111, 112]⟩] W _) at HR2
  generalize hq1 : rrulesP wIgnore wKeep p.ign = q1 at *
  generalize hq2 : rrulesP wBackup wDrop p.bak = q2 at *
  generalize sidedL wPrefer p.pre = sa at *
  generalize sidedL wForce p.frc = sb at *
  obtain ⟨s1, b1⟩ := q1
  obtain ⟨s2, b2⟩ := q2
  simp only at HR1 HR2 l1 l2 o3 o4 hpr
  generalize okNat p.pre = n1 at *
  generalize okNat p.frc = n2 at *
  obtain ⟨out, hout⟩ : ∃ o, printP p = o := ⟨_, rfl⟩
  rw [hout] at hno hyes ⊢
  obtain ⟨W0, hW0⟩ : ∃ W0, w.alloc (.cells #[.slice A0 p.ign.length c0, .slice A1 p.bak.length c1, .slice A2 p.mrg.length c2, .int .i64 p.pre, .int .i64 p.frc, .bool p.bat, .bool p.fst] 27) = W0 := ⟨_, rfl⟩
  have hr0 : W0.heap[w.heap.size]? = some (.cells #[.slice A0 p.ign.length c0, .slice A1 p.bak.length c1, .slice A2 p.mrg.length c2, .int .i64 p.pre, .int .i64 p.frc, .bool p.bat, .bool p.fst] 27 (0, 0)) := by rw [← hW0]; exact heap_alloc_new _ _
  have hsz : w.heap.size < W0.heap.size := by rw [← hW0]; simp
  have HB0 := Lib.hid (show Below w.heap.size w W0 by rw [← hW0]; exact (Below.refl _ _).alloc (Nat.le_refl _) _)
  have HW0 := Lib.hid hW0
  have HCL : Hid (∀ W, Below W0.heap.size W0 W → (W.cell? ⟨w.heap.size, 0, none⟩ = some (.slice A0 p.ign.length c0) ∧ W.cell? ⟨w.heap.size, 1, none⟩ = some (.slice A1 p.bak.length c1) ∧ W.cell? ⟨w.heap.size, 2, none⟩ = some (.slice A2 p.mrg.length c2) ∧ W.cell? ⟨w.heap.size, 3, none⟩ = some (.int .i64 p.pre) ∧ W.cell? ⟨w.heap.size, 4, none⟩ = some (.int .i64 p.frc) ∧ W.cell? ⟨w.heap.size, 5, none⟩ = some (.bool p.bat) ∧ W.cell? ⟨w.heap.size, 6, none⟩ = some (.bool p.fst))) := Lib.hid (fun W hW => by
    have h0 := (hW.block _ hsz).trans hr0
    exact ⟨cell_of_row _ _ 0 _ _ _ h0, cell_of_row _ _ 1 _ _ _ h0, cell_of_row _ _ 2 _ _ _ h0, cell_of_row _ _ 3 _ _ _ h0, cell_of_row _ _ 4 _ _ _ h0, cell_of_row _ _ 5 _ _ _ h0, cell_of_row _ _ 6 _ _ _ h0⟩)
  have HUP := Lib.hid (show ∀ W, Below W0.heap.size W0 W → Below w.heap.size w W from fun W h => HB0.out.trans (h.mono HB0.out.size))
  have HNO := Lib.hid hno
  have HYES := Lib.hid hyes
  have HPR := Lib.hid hpr
  have HTX := Lib.hid htx
  have HHD := Lib.hid hhd
  have HO3 := Lib.hid o3
  have HO4 := Lib.hid o4
  clear hW0 hr0 hsz hno hyes hpr htx hhd o3 o4 hout hq1 hq2
  unfold pfV
  generalize p.ign.length = y0 at *
  generalize p.bak.length = y1 at *
  generalize hbt : p.bat = bt at *
  generalize hft : p.fst = ft at *
  clear hbt hft
  cases bt with
  | true =>
    cases ft with
    | true =>
      have hH : headL p = [98, 97, 116, 99, 104, 10, 102, 97, 115, 116, 10] := HHD.out
      have HH := Lib.hid hH
      clear hH HHD
      go_enter Tryd.func11, Tryd.ntmps11
      go_upto_region 1 with (fail)
      rw [HW0.out]
      obtain ⟨a0, a1, a2, a3, a4, a5, a6⟩ := HCL.out _ (Below.refl _ _)
      go_wp2_with (fail)
      refine (HS1.out _).mono ?_
      rintro e w1 ⟨rfl, hw1⟩
      have HB1 := Lib.hid hw1
      clear a0 a1 a2 a3 a4 a5 a6 hw1
      obtain ⟨a0, a1, a2, a3, a4, a5, a6⟩ := HCL.out _ HB1.out
      go_wp2_with (fail)
      refine (HS2.out _).mono ?_
      rintro e w2 ⟨rfl, hw2⟩
      have HB2 := Lib.hid (HB1.out.trans (hw2.mono HB1.out.size))
      clear a0 a1 a2 a3 a4 a5 a6 hw2 HB1
      obtain ⟨a0, a1, a2, a3, a4, a5, a6⟩ := HCL.out _ HB2.out
      go_wp2_with (fail)
      refine (HR1.out _ (HUP.out _ HB2.out)).mono ?_
      rintro e w3 ⟨rfl, hw3⟩
      have HB3 := Lib.hid (HB2.out.trans (hw3.mono HB2.out.size))
      clear a0 a1 a2 a3 a4 a5 a6 hw3 HB2
      obtain ⟨a0, a1, a2, a3, a4, a5, a6⟩ := HCL.out _ HB3.out
      go_wp2_with (fail)
      refine (HR2.out _ (HUP.out _ HB3.out)).mono ?_
      rintro e w4 ⟨rfl, hw4⟩
      have HB4 := Lib.hid (HB3.out.trans (hw4.mono HB3.out.size))
      clear a0 a1 a2 a3 a4 a5 a6 hw4 HB3 HS1 HS2 HR1 HR2
      obtain ⟨a0, a1, a2, a3, a4, a5, a6⟩ := HCL.out _ HB4.out
      go_upto_region 10 with (fail)
      cases n1 with
      | false =>
        have HF := Lib.hid (HNO.out (by rw [HPR.out]; simp))
        clear HNO HYES HPR HTX HO3 HO4
        go_wp2_with (fail)
        go_ret2
        exact ⟨by rw [HF.out]; rfl, HUP.out _ HB4.out⟩
      | true =>
        cases n2 with
        | false =>
          have HF := Lib.hid (HNO.out (by rw [HPR.out]; simp))
          clear HNO HYES HPR HTX HO3 HO4
          go_wp2_with (fail)
          go_ret2
          exact ⟨by rw [HF.out]; rfl, HUP.out _ HB4.out⟩
        | true =>
          cases b1 with
          | false =>
            have HF := Lib.hid (HNO.out (by rw [HPR.out]; simp))
            clear HNO HYES HPR HTX HO3 HO4
            go_wp2_with (fail)
            go_ret2
            exact ⟨by rw [HF.out]; rfl, HUP.out _ HB4.out⟩
          | true =>
            cases b2 with
            | false =>
              have HF := Lib.hid (HNO.out (by rw [HPR.out]; simp))
              clear HNO HYES HPR HTX HO3 HO4
              go_wp2_with (fail)
              go_ret2
              exact ⟨by rw [HF.out]; rfl, HUP.out _ HB4.out⟩
            | true =>
              have e1 := HO3.out rfl
              have e2 := HO4.out rfl
              clear HO3 HO4
              by_cases h100 : 100 < p.mrg.length
              · have g : (100 : Int) < (p.mrg.length : Int) := by omega
                have HF := Lib.hid (HNO.out (by rw [HPR.out]; unfold okProgs; rw [decide_eq_false (by omega)]; simp))
                clear HNO HYES HPR HTX h100 e1 e2
                go_wp2_with (fail)
                go_ret2
                exact ⟨by rw [HF.out]; rfl, HUP.out _ HB4.out⟩
              · have g : ¬ (100 : Int) < (p.mrg.length : Int) := by omega
                have g100 : p.mrg.length ≤ 100 := by omega
                have HNO2 := Lib.hid (fun (h : (p.mrg.all fun m => wordP m.name && plainS m.pat) = false) => HNO.out (by rw [HPR.out]; unfold okProgs; rw [h]; simp))
                have HYES2 := Lib.hid (fun (h : (p.mrg.all fun m => wordP m.name && plainS m.pat) = true) => HYES.out (by rw [HPR.out]; unfold okProgs; rw [h, decide_eq_true g100]; rfl))
                rw [HTX.out, HH.out, ← e1, ← e2] at HYES2
                clear HNO HYES HPR HTX HH h100 e1 e2
                obtain ⟨S0, hS0⟩ : ∃ S0, [98, 97, 116, 99, 104, 10, 102, 97, 115, 116, 10] ++ sa ++ sb ++ s1 ++ s2 = S0 := ⟨_, rfl⟩
                have hS0l : S0.length ≤ 4398046511200 := by rw [← hS0]; simp; omega
                rw [hS0] at HYES2
                have HS0 := Lib.hid hS0
                clear hS0
                go_upto_region 14 with (fail)
                clear a0 a1 a2 a3 a4 a5 a6
                go_loopw [4, 13] (fun t4 t13 W => ∃ i : Nat, i ≤ p.mrg.length ∧ t13 = .int .i64 i ∧ t4 = .string ⟨(S0 ++ progsL (p.mrg.take i)).toArray⟩ ∧ (progsL (p.mrg.take i)).length ≤ i * 2097160 ∧ Hid (Below W0.heap.size W0 W) ∧ Hid (∀ m ∈ p.mrg.take i, (wordP m.name && plainS m.pat) = true)) (fun _ t13 _ => p.mrg.length - (intOf t13).toNat)
                case atStart => exact ⟨0, by omega, rfl, by rw [← HS0.out]; simp [progsL], by simp [progsL], HB4, Lib.hid (fun m hm => by simp at hm)⟩
                case round =>
                  clear HB4
                  obtain ⟨i, hi, rfl, rfl, hlen, HB, HN⟩ := hrel
                  have i0 : (0 : Int) ≤ (i : Int) := by omega
                  obtain ⟨a0, a1, a2, a3, a4, a5, a6⟩ := HCL.out _ HB.out
                  by_cases hlt : i < p.mrg.length
                  · have i1 : (i : Int) < p.mrg.length := by omega
                    have e1 : IntKind.i64.wrap ((i : Int) + 1) = (i : Int) + 1 := IntWalk.i64_in _ (by omega)
                    have htk := List.take_succ_eq_append_getElem hlt
                    have hmem := List.getElem_mem hlt
                    have hpl := HML.out _ hmem
                    obtain ⟨ad, rfl, x0, x1⟩ := pair_cells (HM.out _ (HUP.out _ HB.out)) hlt (u := .string ⟨p.mrg[i].name.toArray⟩) (v := .string ⟨p.mrg[i].pat.toArray⟩) rfl
                    have hnx : (wordP p.mrg[i].name && plainS p.mrg[i].pat) = true → ∀ m ∈ p.mrg.take (i + 1), (wordP m.name && plainS m.pat) = true := fun h r hr => by
                      rw [htk, List.mem_append] at hr
                      rcases hr with hr | hr
                      · exact HN.out r hr
                      · rw [List.mem_singleton] at hr; subst hr; exact h
                    have hfl : (wordP p.mrg[i].name && plainS p.mrg[i].pat) = false → out = ([], 80) := fun h => HNO2.out (by
                      rw [← Bool.not_eq_true]
                      intro hall
                      have := List.all_eq_true.1 hall _ hmem
                      rw [h] at this; cases this)
                    have hrl : progsL (p.mrg.take (i + 1)) = progsL (p.mrg.take i) ++ (wMerge ++ [32] ++ p.mrg[i].name ++ [32] ++ p.mrg[i].pat ++ [10]) := by
                      rw [htk]; unfold progsL; rw [List.flatMap_append, List.flatMap_singleton]; rfl
                    have HWD := Lib.hid (fun W => rword_any p.mrg[i].name W (by omega))
                    have HPA := Lib.hid (fun W => rplain_any p.mrg[i].pat W (by omega))
                    have HNX := Lib.hid hnx
                    have HFL := Lib.hid hfl
                    have HRL := Lib.hid hrl
                    clear hmem htk hnx hfl hrl HNO2 HYES2 HN HS0 HML
                    generalize p.mrg[i] = r at *
                    obtain ⟨nm, pt⟩ := r
                    obtain ⟨hnl, hpl⟩ := hpl
                    simp only at x0 x1 hnl hpl HWD HPA HNX HFL HRL
                    obtain ⟨wl, hwl2⟩ : ∃ b, wordP nm = b := ⟨_, rfl⟩
                    rw [hwl2] at HWD HNX HFL
                    obtain ⟨pl, hpl2⟩ : ∃ b, plainS pt = b := ⟨_, rfl⟩
                    rw [hpl2] at HPA HNX HFL
                    obtain ⟨S, hS⟩ : ∃ S, progsL (p.mrg.take i) = S := ⟨_, rfl⟩
                    rw [hS] at HRL hlen ⊢
                    clear hwl2 hpl2 hS
                    cases wl with
                    | false =>
                      have HF := Lib.hid (HFL.out rfl)
                      clear HFL HNX HRL
                      go_wp2_with (fail)
                      refine (HWD.out _).mono ?_
                      rintro e W2 ⟨rfl, hw2⟩
                      have HB2 := Lib.hid (HB.out.trans (hw2.mono HB.out.size))
                      clear hw2 a0 a1 a2 a3 a4 a5 a6
                      go_wp2_with (fail)
                      go_ret2
                      exact ⟨by rw [HF.out]; rfl, HUP.out _ HB2.out⟩
                    | true =>
                      go_wp2_with (fail)
                      refine (HWD.out _).mono ?_
                      rintro e W2 ⟨rfl, hw2⟩
                      have HB2 := Lib.hid (HB.out.trans (hw2.mono HB.out.size))
                      have z0 := (hw2.cell (World.block_lt_of_cell? _ _ x0)).trans x0
                      have z1 := (hw2.cell (World.block_lt_of_cell? _ _ x1)).trans x1
                      clear hw2 x0 x1 a0 a1 a2 a3 a4 a5 a6 HB
                      obtain ⟨a0, a1, a2, a3, a4, a5, a6⟩ := HCL.out _ HB2.out
                      cases pl with
                      | false =>
                        have HF := Lib.hid (HFL.out rfl)
                        clear HFL HNX HRL
                        go_wp2_with (fail)
                        refine (HPA.out _).mono ?_
                        rintro e W3 ⟨rfl, hw3⟩
                        have HB3 := Lib.hid (HB2.out.trans (hw3.mono HB2.out.size))
                        clear hw3 a0 a1 a2 a3 a4 a5 a6
                        go_wp2_with (fail)
                        go_ret2
                        exact ⟨by rw [HF.out]; rfl, HUP.out _ HB3.out⟩
                      | true =>
                        have HNX2 := Lib.hid (HNX.out rfl)
                        clear HFL HNX
                        go_wp2_with (fail)
                        refine (HPA.out _).mono ?_
                        rintro e W3 ⟨rfl, hw3⟩
                        have HB3 := Lib.hid (HB2.out.trans (hw3.mono HB2.out.size))
                        have x0 := (hw3.cell (World.block_lt_of_cell? _ _ z0)).trans z0
                        have x1 := (hw3.cell (World.block_lt_of_cell? _ _ z1)).trans z1
                        clear hw3 z0 z1 a0 a1 a2 a3 a4 a5 a6 HB2
                        obtain ⟨a0, a1, a2, a3, a4, a5, a6⟩ := HCL.out _ HB3.out
                        have hn2 : progsL (p.mrg.take (i + 1)) = S ++ (109 :: 101 :: 114 :: 103 :: 101 :: 32 :: (nm ++ 32 :: (pt ++ [10]))) := by rw [HRL.out]; simp [wMerge]
                        clear HRL
                        have HN3 := Lib.hid hn2
                        clear hn2
                        go_wp2_with (fail)
                        go_quiet (fail)
                        go_wp2_with (fail)
                        go_roundw
                        case rel => exact ⟨i + 1, by omega, by go_num, by first | (rw [HN3.out]; done) | (rw [HN3.out]; simp; done), by rw [HN3.out]; simp; omega, Lib.hid (below_drewN HB3.out _), HNX2⟩
                        case measure => simp [intOf]; omega
                  · obtain rfl : i = p.mrg.length := by omega
                    have i1 : decide ((p.mrg.length : Int) < (p.mrg.length : Int)) = false := by rw [decide_eq_false_iff_not]; omega
                    rw [List.take_of_length_le (Nat.le_refl _)] at *
                    have HF := Lib.hid (HYES2.out (List.all_eq_true.2 HN.out))
                    clear HNO2 HYES2 HN HS0 HML HM
                    go_wp2_with (fail)
                    go_ret2
                    exact ⟨by rw [HF.out]; rfl, HUP.out _ HB.out⟩
    | false =>
      have hH : headL p = [98, 97, 116, 99, 104, 10] := HHD.out
      have HH := Lib.hid hH
      clear hH HHD
      go_enter Tryd.func11, Tryd.ntmps11
      go_upto_region 1 with (fail)
      rw [HW0.out]
      obtain ⟨a0, a1, a2, a3, a4, a5, a6⟩ := HCL.out _ (Below.refl _ _)
      go_wp2_with (fail)
      refine (HS1.out _).mono ?_
      rintro e w1 ⟨rfl, hw1⟩
      have HB1 := Lib.hid hw1
      clear a0 a1 a2 a3 a4 a5 a6 hw1
      obtain ⟨a0, a1, a2, a3, a4, a5, a6⟩ := HCL.out _ HB1.out
      go_wp2_with (fail)
      refine (HS2.out _).mono ?_
      rintro e w2 ⟨rfl, hw2⟩
      have HB2 := Lib.hid (HB1.out.trans (hw2.mono HB1.out.size))
      clear a0 a1 a2 a3 a4 a5 a6 hw2 HB1
      obtain ⟨a0, a1, a2, a3, a4, a5, a6⟩ := HCL.out _ HB2.out
      go_wp2_with (fail)
      refine (HR1.out _ (HUP.out _ HB2.out)).mono ?_
      rintro e w3 ⟨rfl, hw3⟩
      have HB3 := Lib.hid (HB2.out.trans (hw3.mono HB2.out.size))
      clear a0 a1 a2 a3 a4 a5 a6 hw3 HB2
      obtain ⟨a0, a1, a2, a3, a4, a5, a6⟩ := HCL.out _ HB3.out
      go_wp2_with (fail)
      refine (HR2.out _ (HUP.out _ HB3.out)).mono ?_
      rintro e w4 ⟨rfl, hw4⟩
      have HB4 := Lib.hid (HB3.out.trans (hw4.mono HB3.out.size))
      clear a0 a1 a2 a3 a4 a5 a6 hw4 HB3 HS1 HS2 HR1 HR2
      obtain ⟨a0, a1, a2, a3, a4, a5, a6⟩ := HCL.out _ HB4.out
      go_upto_region 10 with (fail)
      cases n1 with
      | false =>
        have HF := Lib.hid (HNO.out (by rw [HPR.out]; simp))
        clear HNO HYES HPR HTX HO3 HO4
        go_wp2_with (fail)
        go_ret2
        exact ⟨by rw [HF.out]; rfl, HUP.out _ HB4.out⟩
      | true =>
        cases n2 with
        | false =>
          have HF := Lib.hid (HNO.out (by rw [HPR.out]; simp))
          clear HNO HYES HPR HTX HO3 HO4
          go_wp2_with (fail)
          go_ret2
          exact ⟨by rw [HF.out]; rfl, HUP.out _ HB4.out⟩
        | true =>
          cases b1 with
          | false =>
            have HF := Lib.hid (HNO.out (by rw [HPR.out]; simp))
            clear HNO HYES HPR HTX HO3 HO4
            go_wp2_with (fail)
            go_ret2
            exact ⟨by rw [HF.out]; rfl, HUP.out _ HB4.out⟩
          | true =>
            cases b2 with
            | false =>
              have HF := Lib.hid (HNO.out (by rw [HPR.out]; simp))
              clear HNO HYES HPR HTX HO3 HO4
              go_wp2_with (fail)
              go_ret2
              exact ⟨by rw [HF.out]; rfl, HUP.out _ HB4.out⟩
            | true =>
              have e1 := HO3.out rfl
              have e2 := HO4.out rfl
              clear HO3 HO4
              by_cases h100 : 100 < p.mrg.length
              · have g : (100 : Int) < (p.mrg.length : Int) := by omega
                have HF := Lib.hid (HNO.out (by rw [HPR.out]; unfold okProgs; rw [decide_eq_false (by omega)]; simp))
                clear HNO HYES HPR HTX h100 e1 e2
                go_wp2_with (fail)
                go_ret2
                exact ⟨by rw [HF.out]; rfl, HUP.out _ HB4.out⟩
              · have g : ¬ (100 : Int) < (p.mrg.length : Int) := by omega
                have g100 : p.mrg.length ≤ 100 := by omega
                have HNO2 := Lib.hid (fun (h : (p.mrg.all fun m => wordP m.name && plainS m.pat) = false) => HNO.out (by rw [HPR.out]; unfold okProgs; rw [h]; simp))
                have HYES2 := Lib.hid (fun (h : (p.mrg.all fun m => wordP m.name && plainS m.pat) = true) => HYES.out (by rw [HPR.out]; unfold okProgs; rw [h, decide_eq_true g100]; rfl))
                rw [HTX.out, HH.out, ← e1, ← e2] at HYES2
                clear HNO HYES HPR HTX HH h100 e1 e2
                obtain ⟨S0, hS0⟩ : ∃ S0, [98, 97, 116, 99, 104, 10] ++ sa ++ sb ++ s1 ++ s2 = S0 := ⟨_, rfl⟩
                have hS0l : S0.length ≤ 4398046511200 := by rw [← hS0]; simp; omega
                rw [hS0] at HYES2
                have HS0 := Lib.hid hS0
                clear hS0
                go_upto_region 14 with (fail)
                clear a0 a1 a2 a3 a4 a5 a6
                go_loopw [4, 13] (fun t4 t13 W => ∃ i : Nat, i ≤ p.mrg.length ∧ t13 = .int .i64 i ∧ t4 = .string ⟨(S0 ++ progsL (p.mrg.take i)).toArray⟩ ∧ (progsL (p.mrg.take i)).length ≤ i * 2097160 ∧ Hid (Below W0.heap.size W0 W) ∧ Hid (∀ m ∈ p.mrg.take i, (wordP m.name && plainS m.pat) = true)) (fun _ t13 _ => p.mrg.length - (intOf t13).toNat)
                case atStart => exact ⟨0, by omega, rfl, by rw [← HS0.out]; simp [progsL], by simp [progsL], HB4, Lib.hid (fun m hm => by simp at hm)⟩
                case round =>
                  clear HB4
                  obtain ⟨i, hi, rfl, rfl, hlen, HB, HN⟩ := hrel
                  have i0 : (0 : Int) ≤ (i : Int) := by omega
                  obtain ⟨a0, a1, a2, a3, a4, a5, a6⟩ := HCL.out _ HB.out
                  by_cases hlt : i < p.mrg.length
                  · have i1 : (i : Int) < p.mrg.length := by omega
                    have e1 : IntKind.i64.wrap ((i : Int) + 1) = (i : Int) + 1 := IntWalk.i64_in _ (by omega)
                    have htk := List.take_succ_eq_append_getElem hlt
                    have hmem := List.getElem_mem hlt
                    have hpl := HML.out _ hmem
                    obtain ⟨ad, rfl, x0, x1⟩ := pair_cells (HM.out _ (HUP.out _ HB.out)) hlt (u := .string ⟨p.mrg[i].name.toArray⟩) (v := .string ⟨p.mrg[i].pat.toArray⟩) rfl
                    have hnx : (wordP p.mrg[i].name && plainS p.mrg[i].pat) = true → ∀ m ∈ p.mrg.take (i + 1), (wordP m.name && plainS m.pat) = true := fun h r hr => by
                      rw [htk, List.mem_append] at hr
                      rcases hr with hr | hr
                      · exact HN.out r hr
                      · rw [List.mem_singleton] at hr; subst hr; exact h
                    have hfl : (wordP p.mrg[i].name && plainS p.mrg[i].pat) = false → out = ([], 80) := fun h => HNO2.out (by
                      rw [← Bool.not_eq_true]
                      intro hall
                      have := List.all_eq_true.1 hall _ hmem
                      rw [h] at this; cases this)
                    have hrl : progsL (p.mrg.take (i + 1)) = progsL (p.mrg.take i) ++ (wMerge ++ [32] ++ p.mrg[i].name ++ [32] ++ p.mrg[i].pat ++ [10]) := by
                      rw [htk]; unfold progsL; rw [List.flatMap_append, List.flatMap_singleton]; rfl
                    have HWD := Lib.hid (fun W => rword_any p.mrg[i].name W (by omega))
                    have HPA := Lib.hid (fun W => rplain_any p.mrg[i].pat W (by omega))
                    have HNX := Lib.hid hnx
                    have HFL := Lib.hid hfl
                    have HRL := Lib.hid hrl
                    clear hmem htk hnx hfl hrl HNO2 HYES2 HN HS0 HML
                    generalize p.mrg[i] = r at *
                    obtain ⟨nm, pt⟩ := r
                    obtain ⟨hnl, hpl⟩ := hpl
                    simp only at x0 x1 hnl hpl HWD HPA HNX HFL HRL
                    obtain ⟨wl, hwl2⟩ : ∃ b, wordP nm = b := ⟨_, rfl⟩
                    rw [hwl2] at HWD HNX HFL
                    obtain ⟨pl, hpl2⟩ : ∃ b, plainS pt = b := ⟨_, rfl⟩
                    rw [hpl2] at HPA HNX HFL
                    obtain ⟨S, hS⟩ : ∃ S, progsL (p.mrg.take i) = S := ⟨_, rfl⟩
                    rw [hS] at HRL hlen ⊢
                    clear hwl2 hpl2 hS
                    cases wl with
                    | false =>
                      have HF := Lib.hid (HFL.out rfl)
                      clear HFL HNX HRL
                      go_wp2_with (fail)
                      refine (HWD.out _).mono ?_
                      rintro e W2 ⟨rfl, hw2⟩
                      have HB2 := Lib.hid (HB.out.trans (hw2.mono HB.out.size))
                      clear hw2 a0 a1 a2 a3 a4 a5 a6
                      go_wp2_with (fail)
                      go_ret2
                      exact ⟨by rw [HF.out]; rfl, HUP.out _ HB2.out⟩
                    | true =>
                      go_wp2_with (fail)
                      refine (HWD.out _).mono ?_
                      rintro e W2 ⟨rfl, hw2⟩
                      have HB2 := Lib.hid (HB.out.trans (hw2.mono HB.out.size))
                      have z0 := (hw2.cell (World.block_lt_of_cell? _ _ x0)).trans x0
                      have z1 := (hw2.cell (World.block_lt_of_cell? _ _ x1)).trans x1
                      clear hw2 x0 x1 a0 a1 a2 a3 a4 a5 a6 HB
                      obtain ⟨a0, a1, a2, a3, a4, a5, a6⟩ := HCL.out _ HB2.out
                      cases pl with
                      | false =>
                        have HF := Lib.hid (HFL.out rfl)
                        clear HFL HNX HRL
                        go_wp2_with (fail)
                        refine (HPA.out _).mono ?_
                        rintro e W3 ⟨rfl, hw3⟩
                        have HB3 := Lib.hid (HB2.out.trans (hw3.mono HB2.out.size))
                        clear hw3 a0 a1 a2 a3 a4 a5 a6
                        go_wp2_with (fail)
                        go_ret2
                        exact ⟨by rw [HF.out]; rfl, HUP.out _ HB3.out⟩
                      | true =>
                        have HNX2 := Lib.hid (HNX.out rfl)
                        clear HFL HNX
                        go_wp2_with (fail)
                        refine (HPA.out _).mono ?_
                        rintro e W3 ⟨rfl, hw3⟩
                        have HB3 := Lib.hid (HB2.out.trans (hw3.mono HB2.out.size))
                        have x0 := (hw3.cell (World.block_lt_of_cell? _ _ z0)).trans z0
                        have x1 := (hw3.cell (World.block_lt_of_cell? _ _ z1)).trans z1
                        clear hw3 z0 z1 a0 a1 a2 a3 a4 a5 a6 HB2
                        obtain ⟨a0, a1, a2, a3, a4, a5, a6⟩ := HCL.out _ HB3.out
                        have hn2 : progsL (p.mrg.take (i + 1)) = S ++ (109 :: 101 :: 114 :: 103 :: 101 :: 32 :: (nm ++ 32 :: (pt ++ [10]))) := by rw [HRL.out]; simp [wMerge]
                        clear HRL
                        have HN3 := Lib.hid hn2
                        clear hn2
                        go_wp2_with (fail)
                        go_quiet (fail)
                        go_wp2_with (fail)
                        go_roundw
                        case rel => exact ⟨i + 1, by omega, by go_num, by first | (rw [HN3.out]; done) | (rw [HN3.out]; simp; done), by rw [HN3.out]; simp; omega, Lib.hid (below_drewN HB3.out _), HNX2⟩
                        case measure => simp [intOf]; omega
                  · obtain rfl : i = p.mrg.length := by omega
                    have i1 : decide ((p.mrg.length : Int) < (p.mrg.length : Int)) = false := by rw [decide_eq_false_iff_not]; omega
                    rw [List.take_of_length_le (Nat.le_refl _)] at *
                    have HF := Lib.hid (HYES2.out (List.all_eq_true.2 HN.out))
                    clear HNO2 HYES2 HN HS0 HML HM
                    go_wp2_with (fail)
                    go_ret2
                    exact ⟨by rw [HF.out]; rfl, HUP.out _ HB.out⟩
  | false =>
    cases ft with
    | true =>
      have hH : headL p = [102, 97, 115, 116, 10] := HHD.out
      have HH := Lib.hid hH
      clear hH HHD
      go_enter Tryd.func11, Tryd.ntmps11
      go_upto_region 1 with (fail)
      rw [HW0.out]
      obtain ⟨a0, a1, a2, a3, a4, a5, a6⟩ := HCL.out _ (Below.refl _ _)
      go_wp2_with (fail)
      refine (HS1.out _).mono ?_
      rintro e w1 ⟨rfl, hw1⟩
      have HB1 := Lib.hid hw1
      clear a0 a1 a2 a3 a4 a5 a6 hw1
      obtain ⟨a0, a1, a2, a3, a4, a5, a6⟩ := HCL.out _ HB1.out
      go_wp2_with (fail)
      refine (HS2.out _).mono ?_
      rintro e w2 ⟨rfl, hw2⟩
      have HB2 := Lib.hid (HB1.out.trans (hw2.mono HB1.out.size))
      clear a0 a1 a2 a3 a4 a5 a6 hw2 HB1
      obtain ⟨a0, a1, a2, a3, a4, a5, a6⟩ := HCL.out _ HB2.out
      go_wp2_with (fail)
      refine (HR1.out _ (HUP.out _ HB2.out)).mono ?_
      rintro e w3 ⟨rfl, hw3⟩
      have HB3 := Lib.hid (HB2.out.trans (hw3.mono HB2.out.size))
      clear a0 a1 a2 a3 a4 a5 a6 hw3 HB2
      obtain ⟨a0, a1, a2, a3, a4, a5, a6⟩ := HCL.out _ HB3.out
      go_wp2_with (fail)
      refine (HR2.out _ (HUP.out _ HB3.out)).mono ?_
      rintro e w4 ⟨rfl, hw4⟩
      have HB4 := Lib.hid (HB3.out.trans (hw4.mono HB3.out.size))
      clear a0 a1 a2 a3 a4 a5 a6 hw4 HB3 HS1 HS2 HR1 HR2
      obtain ⟨a0, a1, a2, a3, a4, a5, a6⟩ := HCL.out _ HB4.out
      go_upto_region 10 with (fail)
      cases n1 with
      | false =>
        have HF := Lib.hid (HNO.out (by rw [HPR.out]; simp))
        clear HNO HYES HPR HTX HO3 HO4
        go_wp2_with (fail)
        go_ret2
        exact ⟨by rw [HF.out]; rfl, HUP.out _ HB4.out⟩
      | true =>
        cases n2 with
        | false =>
          have HF := Lib.hid (HNO.out (by rw [HPR.out]; simp))
          clear HNO HYES HPR HTX HO3 HO4
          go_wp2_with (fail)
          go_ret2
          exact ⟨by rw [HF.out]; rfl, HUP.out _ HB4.out⟩
        | true =>
          cases b1 with
          | false =>
            have HF := Lib.hid (HNO.out (by rw [HPR.out]; simp))
            clear HNO HYES HPR HTX HO3 HO4
            go_wp2_with (fail)
            go_ret2
            exact ⟨by rw [HF.out]; rfl, HUP.out _ HB4.out⟩
          | true =>
            cases b2 with
            | false =>
              have HF := Lib.hid (HNO.out (by rw [HPR.out]; simp))
              clear HNO HYES HPR HTX HO3 HO4
              go_wp2_with (fail)
              go_ret2
              exact ⟨by rw [HF.out]; rfl, HUP.out _ HB4.out⟩
            | true =>
              have e1 := HO3.out rfl
              have e2 := HO4.out rfl
              clear HO3 HO4
              by_cases h100 : 100 < p.mrg.length
              · have g : (100 : Int) < (p.mrg.length : Int) := by omega
                have HF := Lib.hid (HNO.out (by rw [HPR.out]; unfold okProgs; rw [decide_eq_false (by omega)]; simp))
                clear HNO HYES HPR HTX h100 e1 e2
                go_wp2_with (fail)
                go_ret2
                exact ⟨by rw [HF.out]; rfl, HUP.out _ HB4.out⟩
              · have g : ¬ (100 : Int) < (p.mrg.length : Int) := by omega
                have g100 : p.mrg.length ≤ 100 := by omega
                have HNO2 := Lib.hid (fun (h : (p.mrg.all fun m => wordP m.name && plainS m.pat) = false) => HNO.out (by rw [HPR.out]; unfold okProgs; rw [h]; simp))
                have HYES2 := Lib.hid (fun (h : (p.mrg.all fun m => wordP m.name && plainS m.pat) = true) => HYES.out (by rw [HPR.out]; unfold okProgs; rw [h, decide_eq_true g100]; rfl))
                rw [HTX.out, HH.out, ← e1, ← e2] at HYES2
                clear HNO HYES HPR HTX HH h100 e1 e2
                obtain ⟨S0, hS0⟩ : ∃ S0, [102, 97, 115, 116, 10] ++ sa ++ sb ++ s1 ++ s2 = S0 := ⟨_, rfl⟩
                have hS0l : S0.length ≤ 4398046511200 := by rw [← hS0]; simp; omega
                rw [hS0] at HYES2
                have HS0 := Lib.hid hS0
                clear hS0
                go_upto_region 14 with (fail)
                clear a0 a1 a2 a3 a4 a5 a6
                go_loopw [4, 13] (fun t4 t13 W => ∃ i : Nat, i ≤ p.mrg.length ∧ t13 = .int .i64 i ∧ t4 = .string ⟨(S0 ++ progsL (p.mrg.take i)).toArray⟩ ∧ (progsL (p.mrg.take i)).length ≤ i * 2097160 ∧ Hid (Below W0.heap.size W0 W) ∧ Hid (∀ m ∈ p.mrg.take i, (wordP m.name && plainS m.pat) = true)) (fun _ t13 _ => p.mrg.length - (intOf t13).toNat)
                case atStart => exact ⟨0, by omega, rfl, by rw [← HS0.out]; simp [progsL], by simp [progsL], HB4, Lib.hid (fun m hm => by simp at hm)⟩
                case round =>
                  clear HB4
                  obtain ⟨i, hi, rfl, rfl, hlen, HB, HN⟩ := hrel
                  have i0 : (0 : Int) ≤ (i : Int) := by omega
                  obtain ⟨a0, a1, a2, a3, a4, a5, a6⟩ := HCL.out _ HB.out
                  by_cases hlt : i < p.mrg.length
                  · have i1 : (i : Int) < p.mrg.length := by omega
                    have e1 : IntKind.i64.wrap ((i : Int) + 1) = (i : Int) + 1 := IntWalk.i64_in _ (by omega)
                    have htk := List.take_succ_eq_append_getElem hlt
                    have hmem := List.getElem_mem hlt
                    have hpl := HML.out _ hmem
                    obtain ⟨ad, rfl, x0, x1⟩ := pair_cells (HM.out _ (HUP.out _ HB.out)) hlt (u := .string ⟨p.mrg[i].name.toArray⟩) (v := .string ⟨p.mrg[i].pat.toArray⟩) rfl
                    have hnx : (wordP p.mrg[i].name && plainS p.mrg[i].pat) = true → ∀ m ∈ p.mrg.take (i + 1), (wordP m.name && plainS m.pat) = true := fun h r hr => by
                      rw [htk, List.mem_append] at hr
                      rcases hr with hr | hr
                      · exact HN.out r hr
                      · rw [List.mem_singleton] at hr; subst hr; exact h
                    have hfl : (wordP p.mrg[i].name && plainS p.mrg[i].pat) = false → out = ([], 80) := fun h => HNO2.out (by
                      rw [← Bool.not_eq_true]
                      intro hall
                      have := List.all_eq_true.1 hall _ hmem
                      rw [h] at this; cases this)
                    have hrl : progsL (p.mrg.take (i + 1)) = progsL (p.mrg.take i) ++ (wMerge ++ [32] ++ p.mrg[i].name ++ [32] ++ p.mrg[i].pat ++ [10]) := by
                      rw [htk]; unfold progsL; rw [List.flatMap_append, List.flatMap_singleton]; rfl
                    have HWD := Lib.hid (fun W => rword_any p.mrg[i].name W (by omega))
                    have HPA := Lib.hid (fun W => rplain_any p.mrg[i].pat W (by omega))
                    have HNX := Lib.hid hnx
                    have HFL := Lib.hid hfl
                    have HRL := Lib.hid hrl
                    clear hmem htk hnx hfl hrl HNO2 HYES2 HN HS0 HML
                    generalize p.mrg[i] = r at *
                    obtain ⟨nm, pt⟩ := r
                    obtain ⟨hnl, hpl⟩ := hpl
                    simp only at x0 x1 hnl hpl HWD HPA HNX HFL HRL
                    obtain ⟨wl, hwl2⟩ : ∃ b, wordP nm = b := ⟨_, rfl⟩
                    rw [hwl2] at HWD HNX HFL
                    obtain ⟨pl, hpl2⟩ : ∃ b, plainS pt = b := ⟨_, rfl⟩
                    rw [hpl2] at HPA HNX HFL
                    obtain ⟨S, hS⟩ : ∃ S, progsL (p.mrg.take i) = S := ⟨_, rfl⟩
                    rw [hS] at HRL hlen ⊢
                    clear hwl2 hpl2 hS
                    cases wl with
                    | false =>
                      have HF := Lib.hid (HFL.out rfl)
                      clear HFL HNX HRL
                      go_wp2_with (fail)
                      refine (HWD.out _).mono ?_
                      rintro e W2 ⟨rfl, hw2⟩
                      have HB2 := Lib.hid (HB.out.trans (hw2.mono HB.out.size))
                      clear hw2 a0 a1 a2 a3 a4 a5 a6
                      go_wp2_with (fail)
                      go_ret2
                      exact ⟨by rw [HF.out]; rfl, HUP.out _ HB2.out⟩
                    | true =>
                      go_wp2_with (fail)
                      refine (HWD.out _).mono ?_
                      rintro e W2 ⟨rfl, hw2⟩
                      have HB2 := Lib.hid (HB.out.trans (hw2.mono HB.out.size))
                      have z0 := (hw2.cell (World.block_lt_of_cell? _ _ x0)).trans x0
                      have z1 := (hw2.cell (World.block_lt_of_cell? _ _ x1)).trans x1
                      clear hw2 x0 x1 a0 a1 a2 a3 a4 a5 a6 HB
                      obtain ⟨a0, a1, a2, a3, a4, a5, a6⟩ := HCL.out _ HB2.out
                      cases pl with
                      | false =>
                        have HF := Lib.hid (HFL.out rfl)
                        clear HFL HNX HRL
                        go_wp2_with (fail)
                        refine (HPA.out _).mono ?_
                        rintro e W3 ⟨rfl, hw3⟩
                        have HB3 := Lib.hid (HB2.out.trans (hw3.mono HB2.out.size))
                        clear hw3 a0 a1 a2 a3 a4 a5 a6
                        go_wp2_with (fail)
                        go_ret2
                        exact ⟨by rw [HF.out]; rfl, HUP.out _ HB3.out⟩
                      | true =>
                        have HNX2 := Lib.hid (HNX.out rfl)
                        clear HFL HNX
                        go_wp2_with (fail)
                        refine (HPA.out _).mono ?_
                        rintro e W3 ⟨rfl, hw3⟩
                        have HB3 := Lib.hid (HB2.out.trans (hw3.mono HB2.out.size))
                        have x0 := (hw3.cell (World.block_lt_of_cell? _ _ z0)).trans z0
                        have x1 := (hw3.cell (World.block_lt_of_cell? _ _ z1)).trans z1
                        clear hw3 z0 z1 a0 a1 a2 a3 a4 a5 a6 HB2
                        obtain ⟨a0, a1, a2, a3, a4, a5, a6⟩ := HCL.out _ HB3.out
                        have hn2 : progsL (p.mrg.take (i + 1)) = S ++ (109 :: 101 :: 114 :: 103 :: 101 :: 32 :: (nm ++ 32 :: (pt ++ [10]))) := by rw [HRL.out]; simp [wMerge]
                        clear HRL
                        have HN3 := Lib.hid hn2
                        clear hn2
                        go_wp2_with (fail)
                        go_quiet (fail)
                        go_wp2_with (fail)
                        go_roundw
                        case rel => exact ⟨i + 1, by omega, by go_num, by first | (rw [HN3.out]; done) | (rw [HN3.out]; simp; done), by rw [HN3.out]; simp; omega, Lib.hid (below_drewN HB3.out _), HNX2⟩
                        case measure => simp [intOf]; omega
                  · obtain rfl : i = p.mrg.length := by omega
                    have i1 : decide ((p.mrg.length : Int) < (p.mrg.length : Int)) = false := by rw [decide_eq_false_iff_not]; omega
                    rw [List.take_of_length_le (Nat.le_refl _)] at *
                    have HF := Lib.hid (HYES2.out (List.all_eq_true.2 HN.out))
                    clear HNO2 HYES2 HN HS0 HML HM
                    go_wp2_with (fail)
                    go_ret2
                    exact ⟨by rw [HF.out]; rfl, HUP.out _ HB.out⟩
    | false =>
      have hH : headL p = [] := HHD.out
      have HH := Lib.hid hH
      clear hH HHD
      go_enter Tryd.func11, Tryd.ntmps11
      go_upto_region 1 with (fail)
      rw [HW0.out]
      obtain ⟨a0, a1, a2, a3, a4, a5, a6⟩ := HCL.out _ (Below.refl _ _)
      go_wp2_with (fail)
      refine (HS1.out _).mono ?_
      rintro e w1 ⟨rfl, hw1⟩
      have HB1 := Lib.hid hw1
      clear a0 a1 a2 a3 a4 a5 a6 hw1
      obtain ⟨a0, a1, a2, a3, a4, a5, a6⟩ := HCL.out _ HB1.out
      go_wp2_with (fail)
      refine (HS2.out _).mono ?_
      rintro e w2 ⟨rfl, hw2⟩
      have HB2 := Lib.hid (HB1.out.trans (hw2.mono HB1.out.size))
      clear a0 a1 a2 a3 a4 a5 a6 hw2 HB1
      obtain ⟨a0, a1, a2, a3, a4, a5, a6⟩ := HCL.out _ HB2.out
      go_wp2_with (fail)
      refine (HR1.out _ (HUP.out _ HB2.out)).mono ?_
      rintro e w3 ⟨rfl, hw3⟩
      have HB3 := Lib.hid (HB2.out.trans (hw3.mono HB2.out.size))
      clear a0 a1 a2 a3 a4 a5 a6 hw3 HB2
      obtain ⟨a0, a1, a2, a3, a4, a5, a6⟩ := HCL.out _ HB3.out
      go_wp2_with (fail)
      refine (HR2.out _ (HUP.out _ HB3.out)).mono ?_
      rintro e w4 ⟨rfl, hw4⟩
      have HB4 := Lib.hid (HB3.out.trans (hw4.mono HB3.out.size))
      clear a0 a1 a2 a3 a4 a5 a6 hw4 HB3 HS1 HS2 HR1 HR2
      obtain ⟨a0, a1, a2, a3, a4, a5, a6⟩ := HCL.out _ HB4.out
      go_upto_region 10 with (fail)
      cases n1 with
      | false =>
        have HF := Lib.hid (HNO.out (by rw [HPR.out]; simp))
        clear HNO HYES HPR HTX HO3 HO4
        go_wp2_with (fail)
        go_ret2
        exact ⟨by rw [HF.out]; rfl, HUP.out _ HB4.out⟩
      | true =>
        cases n2 with
        | false =>
          have HF := Lib.hid (HNO.out (by rw [HPR.out]; simp))
          clear HNO HYES HPR HTX HO3 HO4
          go_wp2_with (fail)
          go_ret2
          exact ⟨by rw [HF.out]; rfl, HUP.out _ HB4.out⟩
        | true =>
          cases b1 with
          | false =>
            have HF := Lib.hid (HNO.out (by rw [HPR.out]; simp))
            clear HNO HYES HPR HTX HO3 HO4
            go_wp2_with (fail)
            go_ret2
            exact ⟨by rw [HF.out]; rfl, HUP.out _ HB4.out⟩
          | true =>
            cases b2 with
            | false =>
              have HF := Lib.hid (HNO.out (by rw [HPR.out]; simp))
              clear HNO HYES HPR HTX HO3 HO4
              go_wp2_with (fail)
              go_ret2
              exact ⟨by rw [HF.out]; rfl, HUP.out _ HB4.out⟩
            | true =>
              have e1 := HO3.out rfl
              have e2 := HO4.out rfl
              clear HO3 HO4
              by_cases h100 : 100 < p.mrg.length
              · have g : (100 : Int) < (p.mrg.length : Int) := by omega
                have HF := Lib.hid (HNO.out (by rw [HPR.out]; unfold okProgs; rw [decide_eq_false (by omega)]; simp))
                clear HNO HYES HPR HTX h100 e1 e2
                go_wp2_with (fail)
                go_ret2
                exact ⟨by rw [HF.out]; rfl, HUP.out _ HB4.out⟩
              · have g : ¬ (100 : Int) < (p.mrg.length : Int) := by omega
                have g100 : p.mrg.length ≤ 100 := by omega
                have HNO2 := Lib.hid (fun (h : (p.mrg.all fun m => wordP m.name && plainS m.pat) = false) => HNO.out (by rw [HPR.out]; unfold okProgs; rw [h]; simp))
                have HYES2 := Lib.hid (fun (h : (p.mrg.all fun m => wordP m.name && plainS m.pat) = true) => HYES.out (by rw [HPR.out]; unfold okProgs; rw [h, decide_eq_true g100]; rfl))
                rw [HTX.out, HH.out, ← e1, ← e2] at HYES2
                clear HNO HYES HPR HTX HH h100 e1 e2
                obtain ⟨S0, hS0⟩ : ∃ S0, [] ++ sa ++ sb ++ s1 ++ s2 = S0 := ⟨_, rfl⟩
                have hS0l : S0.length ≤ 4398046511200 := by rw [← hS0]; simp; omega
                rw [hS0] at HYES2
                have HS0 := Lib.hid hS0
                clear hS0
                go_upto_region 14 with (fail)
                clear a0 a1 a2 a3 a4 a5 a6
                go_loopw [4, 13] (fun t4 t13 W => ∃ i : Nat, i ≤ p.mrg.length ∧ t13 = .int .i64 i ∧ t4 = .string ⟨(S0 ++ progsL (p.mrg.take i)).toArray⟩ ∧ (progsL (p.mrg.take i)).length ≤ i * 2097160 ∧ Hid (Below W0.heap.size W0 W) ∧ Hid (∀ m ∈ p.mrg.take i, (wordP m.name && plainS m.pat) = true)) (fun _ t13 _ => p.mrg.length - (intOf t13).toNat)
                case atStart => exact ⟨0, by omega, rfl, by rw [← HS0.out]; simp [progsL], by simp [progsL], HB4, Lib.hid (fun m hm => by simp at hm)⟩
                case round =>
                  clear HB4
                  obtain ⟨i, hi, rfl, rfl, hlen, HB, HN⟩ := hrel
                  have i0 : (0 : Int) ≤ (i : Int) := by omega
                  obtain ⟨a0, a1, a2, a3, a4, a5, a6⟩ := HCL.out _ HB.out
                  by_cases hlt : i < p.mrg.length
                  · have i1 : (i : Int) < p.mrg.length := by omega
                    have e1 : IntKind.i64.wrap ((i : Int) + 1) = (i : Int) + 1 := IntWalk.i64_in _ (by omega)
                    have htk := List.take_succ_eq_append_getElem hlt
                    have hmem := List.getElem_mem hlt
                    have hpl := HML.out _ hmem
                    obtain ⟨ad, rfl, x0, x1⟩ := pair_cells (HM.out _ (HUP.out _ HB.out)) hlt (u := .string ⟨p.mrg[i].name.toArray⟩) (v := .string ⟨p.mrg[i].pat.toArray⟩) rfl
                    have hnx : (wordP p.mrg[i].name && plainS p.mrg[i].pat) = true → ∀ m ∈ p.mrg.take (i + 1), (wordP m.name && plainS m.pat) = true := fun h r hr => by
                      rw [htk, List.mem_append] at hr
                      rcases hr with hr | hr
                      · exact HN.out r hr
                      · rw [List.mem_singleton] at hr; subst hr; exact h
                    have hfl : (wordP p.mrg[i].name && plainS p.mrg[i].pat) = false → out = ([], 80) := fun h => HNO2.out (by
                      rw [← Bool.not_eq_true]
                      intro hall
                      have := List.all_eq_true.1 hall _ hmem
                      rw [h] at this; cases this)
                    have hrl : progsL (p.mrg.take (i + 1)) = progsL (p.mrg.take i) ++ (wMerge ++ [32] ++ p.mrg[i].name ++ [32] ++ p.mrg[i].pat ++ [10]) := by
                      rw [htk]; unfold progsL; rw [List.flatMap_append, List.flatMap_singleton]; rfl
                    have HWD := Lib.hid (fun W => rword_any p.mrg[i].name W (by omega))
                    have HPA := Lib.hid (fun W => rplain_any p.mrg[i].pat W (by omega))
                    have HNX := Lib.hid hnx
                    have HFL := Lib.hid hfl
                    have HRL := Lib.hid hrl
                    clear hmem htk hnx hfl hrl HNO2 HYES2 HN HS0 HML
                    generalize p.mrg[i] = r at *
                    obtain ⟨nm, pt⟩ := r
                    obtain ⟨hnl, hpl⟩ := hpl
                    simp only at x0 x1 hnl hpl HWD HPA HNX HFL HRL
                    obtain ⟨wl, hwl2⟩ : ∃ b, wordP nm = b := ⟨_, rfl⟩
                    rw [hwl2] at HWD HNX HFL
                    obtain ⟨pl, hpl2⟩ : ∃ b, plainS pt = b := ⟨_, rfl⟩
                    rw [hpl2] at HPA HNX HFL
                    obtain ⟨S, hS⟩ : ∃ S, progsL (p.mrg.take i) = S := ⟨_, rfl⟩
                    rw [hS] at HRL hlen ⊢
                    clear hwl2 hpl2 hS
                    cases wl with
                    | false =>
                      have HF := Lib.hid (HFL.out rfl)
                      clear HFL HNX HRL
                      go_wp2_with (fail)
                      refine (HWD.out _).mono ?_
                      rintro e W2 ⟨rfl, hw2⟩
                      have HB2 := Lib.hid (HB.out.trans (hw2.mono HB.out.size))
                      clear hw2 a0 a1 a2 a3 a4 a5 a6
                      go_wp2_with (fail)
                      go_ret2
                      exact ⟨by rw [HF.out]; rfl, HUP.out _ HB2.out⟩
                    | true =>
                      go_wp2_with (fail)
                      refine (HWD.out _).mono ?_
                      rintro e W2 ⟨rfl, hw2⟩
                      have HB2 := Lib.hid (HB.out.trans (hw2.mono HB.out.size))
                      have z0 := (hw2.cell (World.block_lt_of_cell? _ _ x0)).trans x0
                      have z1 := (hw2.cell (World.block_lt_of_cell? _ _ x1)).trans x1
                      clear hw2 x0 x1 a0 a1 a2 a3 a4 a5 a6 HB
                      obtain ⟨a0, a1, a2, a3, a4, a5, a6⟩ := HCL.out _ HB2.out
                      cases pl with
                      | false =>
                        have HF := Lib.hid (HFL.out rfl)
                        clear HFL HNX HRL
                        go_wp2_with (fail)
                        refine (HPA.out _).mono ?_
                        rintro e W3 ⟨rfl, hw3⟩
                        have HB3 := Lib.hid (HB2.out.trans (hw3.mono HB2.out.size))
                        clear hw3 a0 a1 a2 a3 a4 a5 a6
                        go_wp2_with (fail)
                        go_ret2
                        exact ⟨by rw [HF.out]; rfl, HUP.out _ HB3.out⟩
                      | true =>
                        have HNX2 := Lib.hid (HNX.out rfl)
                        clear HFL HNX
                        go_wp2_with (fail)
                        refine (HPA.out _).mono ?_
                        rintro e W3 ⟨rfl, hw3⟩
                        have HB3 := Lib.hid (HB2.out.trans (hw3.mono HB2.out.size))
                        have x0 := (hw3.cell (World.block_lt_of_cell? _ _ z0)).trans z0
                        have x1 := (hw3.cell (World.block_lt_of_cell? _ _ z1)).trans z1
                        clear hw3 z0 z1 a0 a1 a2 a3 a4 a5 a6 HB2
                        obtain ⟨a0, a1, a2, a3, a4, a5, a6⟩ := HCL.out _ HB3.out
                        have hn2 : progsL (p.mrg.take (i + 1)) = S ++ (109 :: 101 :: 114 :: 103 :: 101 :: 32 :: (nm ++ 32 :: (pt ++ [10]))) := by rw [HRL.out]; simp [wMerge]
                        clear HRL
                        have HN3 := Lib.hid hn2
                        clear hn2
                        go_wp2_with (fail)
                        go_quiet (fail)
                        go_wp2_with (fail)
                        go_roundw
                        case rel => exact ⟨i + 1, by omega, by go_num, by first | (rw [HN3.out]; done) | (rw [HN3.out]; simp; done), by rw [HN3.out]; simp; omega, Lib.hid (below_drewN HB3.out _), HNX2⟩
                        case measure => simp [intOf]; omega
                  · obtain rfl : i = p.mrg.length := by omega
                    have i1 : decide ((p.mrg.length : Int) < (p.mrg.length : Int)) = false := by rw [decide_eq_false_iff_not]; omega
                    rw [List.take_of_length_le (Nat.le_refl _)] at *
                    have HF := Lib.hid (HYES2.out (List.all_eq_true.2 HN.out))
                    clear HNO2 HYES2 HN HS0 HML HM
                    go_wp2_with (fail)
                    go_ret2
                    exact ⟨by rw [HF.out]; rfl, HUP.out _ HB.out⟩
end Go.Proofs.YtoifnnhbejofjaaDoor
end

/- Contracts of strings.Builder's methods at a builder that the call itself has made. -/
section
namespace Go.Proofs.YtoifnnhbejofjaaDoor
open Go.RowKit

theorem sizeBuilder : (Tryd.prog.info? 58).map (·.size) = some 2 := by kernel_rfl
theorem info_byte : (Tryd.prog.info? 5).map (fun i => (i.zero, i.size, i.bytes)) = some (some (.int .u8 0), 1, 1) := by kernel_rfl
theorem liesBuilder : liesAt Tryd.prog Tryd.prog.depth 58 (2 / Tryd.prog.cellsOf 58) 0 58 1 = true := by kernel_rfl

set_option maxHeartbeats 400000 in
theorem copyCheck_used (b : Nat) (w : World) (h0 : w.cell? ⟨b, 0, none⟩ = some (.pointer (some ⟨b, 0, none⟩))) :
    Calls Tryd.prog 39 #[.pointer (some ⟨b, 0, none⟩)] w fun e w' => e = .returned (.tuple #[]) ∧ w' = w := by
  obtain ⟨j, hj, _⟩ := Option.map_eq_some_iff.1 sizeBuilder
  have hne := fun w => Lib.run_neq_ptr_same (P := Tryd.prog) w ⟨b, 0, none⟩ Tryd.underlying55 hj
  go_enter Tryd.func39, Tryd.ntmps39
  go_wp2_with (fail)
  go_end0
  exact ⟨rfl, rfl⟩

set_option maxHeartbeats 400000 in
theorem copyCheck_fresh (b : Nat) (w : World) (h0 : w.cell? ⟨b, 0, none⟩ = some (.pointer none)) (hsh : w.shape? b = some (58, 2)) (hfz : w.frozen? ⟨b, 0, none⟩ = false) :
    Calls Tryd.prog 39 #[.pointer (some ⟨b, 0, none⟩)] w fun e w' => e = .returned (.tuple #[]) ∧ w' = w.setCell ⟨b, 0, none⟩ (.pointer (some ⟨b, 0, none⟩)) := by
  obtain ⟨j, hj, hjs⟩ := Option.map_eq_some_iff.1 sizeBuilder
  have c1 := Lib.run_to_unsafe (P := Tryd.prog) w ⟨b, 0, none⟩ Tryd.underlying55 Tryd.underlying96 hj (by rw [hjs]; decide) hsh (Nat.zero_lt_succ 1)
  have c2 := Lib.run_from_unsafe (P := Tryd.prog) w ⟨b, 0, none⟩ Tryd.underlying96 Tryd.underlying55 hj hsh liesBuilder
  have c3 : ∀ (x : Value) w, (callFunc 54 #[x]).run Tryd.prog w = .ok (.value x) w := fun x w => by
    rw [run_callFunc_extern Tryd.func54 (by kernel_rfl) (by kernel_rfl) (by kernel_rfl) (e := Extern.AbiNoEscape.same) (by kernel_rfl), Lib.run_noEscape]
    rfl
  go_enter Tryd.func39, Tryd.ntmps39
  go_wp2_with (fail)
  go_end0
  exact ⟨rfl, rfl⟩

theorem copyCheck_any (B b : Nat) (bs : List Value) (w : World) (h : Lib.IsBuilderF 58 5 B b bs w) :
    Calls Tryd.prog 39 #[.pointer (some ⟨b, 0, none⟩)] w fun e w' => e = .returned (.tuple #[]) ∧
      (Lib.BuilderAtF 58 5 B b (.pointer (some ⟨b, 0, none⟩)) bs w' ∧ Below B w w' ∧ Lib.OthersKept 5 (some b) w w') := by
  rcases h with h | h
  · refine (copyCheck_fresh b w h.cell0 h.shape h.frozen0).mono ?_
    rintro e w' ⟨rfl, rfl⟩
    exact ⟨rfl, h.used _, (Below.refl B w).setCell (p := ⟨b, 0, none⟩) h.1 _, (Lib.OthersKept.refl _ _ w).setCell ⟨b, 0, none⟩ rfl _⟩
  · refine (copyCheck_used b w h.cell0).mono ?_
    rintro e w' ⟨rfl, rfl⟩
    exact ⟨rfl, h, Below.refl B _, Lib.OthersKept.refl _ _ _⟩

theorem builderAt_below {T e : TypeId} {B b : Nat} {p : Value} {bs : List Value} {w w' : World} (h : Lib.BuilderAtF T e B b p bs w) (hb : Below w.heap.size w w') : Lib.BuilderAtF T e B b p bs w' := by
  obtain ⟨hB, v, hbk, hown, hne⟩ := h
  have hlt : b < w.heap.size := by
    rcases Nat.lt_or_ge b w.heap.size with h' | h'
    · exact h'
    · simp [Array.getElem?_eq_none h'] at hbk
  exact ⟨hB, v, (hb.block b hlt).trans hbk, hown.kept (row := none) ⟨hb.os, hb.tape, hb.output, hb.size, fun k hk _ => hb.block k hk⟩ (by cases v.ownBlock <;> simp), hne⟩
/-- A builder is kept by a call that keeps old memory. -/
theorem builder_below {T e : TypeId} {B b : Nat} {bs : List Value} {w w' : World} (h : Lib.IsBuilderF T e B b bs w) (hb : Below w.heap.size w w') : Lib.IsBuilderF T e B b bs w' :=
  h.imp (fun h => builderAt_below h hb) (fun h => builderAt_below h hb)
theorem fresh_builder (w : World) : Lib.IsBuilderF 58 5 w.heap.size w.heap.size (Lib.byteCells []) (w.alloc (.cells #[.pointer none, .slice none 0 0] 58)) :=
  Lib.IsBuilderF.of (Lib.fresh_isBuilder _ _ w)

set_option maxHeartbeats 400000 in
theorem WriteString_any (B b : Nat) (bs : List Value) (s : ByteArray) (w : World) (h : Lib.IsBuilderF 58 5 B b bs w) (hlen : bs.length + s.size ≤ 140737488355328) (hBw : B ≤ w.heap.size) :
    Calls Tryd.prog 18 #[.pointer (some ⟨b, 0, none⟩), .string s] w fun e w' => e = .returned (.tuple #[.int .i64 s.size, .nilIface]) ∧
      (Lib.BuilderAtF 58 5 B b (.pointer (some ⟨b, 0, none⟩)) (bs ++ Lib.strCells s) w' ∧ Below B w w' ∧ Lib.OthersKept 5 (some b) w w') := by
  obtain ⟨i0, hi, hz0, hz1, hz2⟩ := info_parts info_byte
  go_enter Tryd.func18, Tryd.ntmps18
  go_wp2_with (fail)
  refine (copyCheck_any B b bs _ h).mono ?_
  rintro e w1 ⟨rfl, h1, hb1, hk1⟩
  obtain ⟨hB, v, hbk, hown, hne⟩ := h1
  have c0 : w1.cell? ⟨b, 0, none⟩ = some (.pointer (some ⟨b, 0, none⟩)) := by rw [Lib.cell_of_heap hbk]; rfl
  have c1 : w1.cell? ⟨b, 1, none⟩ = some v := by rw [Lib.cell_of_heap hbk]; rfl
  go_wp2_with (at_builtin; refine Lib.wpList_append_own_stringF _ rfl _ _ 56 9 rfl B 5 i0 Tryd.underlying56 Tryd.underlying9 hi hz0 hz1 hz2 _ _ _ rfl hown s rfl ?c3 ?c4 ?c5 ?_)
  case c3 => unfold maxLen; omega
  case c4 => omega
  case c5 => have := hb1.size; omega
  intro v' w2 hown' hgrow _
  have hlt : b < w1.heap.size := by
    rcases Nat.lt_or_ge b w1.heap.size with h' | h'
    · exact h'
    · simp [Array.getElem?_eq_none h'] at hbk
  have hb2 : w2.heap[b]? = some (.cells #[.pointer (some ⟨b, 0, none⟩), v] 58 (0, 0)) := by
    rw [hgrow.block b hlt (fun e => hne e.symm)]
    exact hbk
  have d0 : w2.cell? ⟨b, 0, none⟩ = some (.pointer (some ⟨b, 0, none⟩)) := by rw [Lib.cell_of_heap hb2]; rfl
  have d1 : w2.cell? ⟨b, 1, none⟩ = some v := by rw [Lib.cell_of_heap hb2]; rfl
  have f1 : w2.frozen? ⟨b, 1, none⟩ = false := Lib.frozen_of_heap hb2 1
  obtain ⟨ao, n', cap, rfl⟩ : ∃ ao n' cap, v' = .slice ao n' cap := by
    rcases hown'.2 with ⟨hv, _⟩ | ⟨g, cap, cur, fz, hv, _⟩
    · exact ⟨_, _, _, hv⟩
    · exact ⟨_, _, _, hv⟩
  go_wp2
  go_ret2
  refine ⟨rfl, ?_, ?_, (hk1.grown hgrow (Lib.ownsRowF_kind hown)).setCell ⟨b, 1, none⟩ rfl _⟩
  · exact Lib.BuilderAtF.put (T := 58) (e := 5) hB hb2 (bs' := bs ++ Lib.strCells s) (by simpa [Lib.strCells_length] using hown') (by decide)
  · exact (hb1.grown hgrow (by have := hb1.size; omega) (fun k hk => (hown.lt k hk).1)).setCell (p := ⟨b, 1, none⟩) hB _

/-- The same, by lists of bytes. -/
theorem WriteString_list (B b : Nat) (l s : List UInt8) (w : World) (h : Lib.IsBuilderF 58 5 B b (Lib.byteCells l) w) (hlen : l.length + s.length ≤ 140737488355328) (hBw : B ≤ w.heap.size) :
    Calls Tryd.prog 18 #[.pointer (some ⟨b, 0, none⟩), .string ⟨s.toArray⟩] w fun e w' => e = .returned (.tuple #[.int .i64 s.length, .nilIface]) ∧
      (Lib.IsBuilderF 58 5 B b (Lib.byteCells (l ++ s)) w' ∧ Below B w w' ∧ Lib.OthersKept 5 (some b) w w') :=
  (WriteString_any B b _ ⟨s.toArray⟩ w h (by simpa [Lib.byteCells_length, ByteArray.size] using hlen) hBw).mono fun e w' ⟨he, h1, h2, h3⟩ =>
    ⟨he, .inr (by rw [Lib.byteCells_append]; exact h1), h2, h3⟩

end Go.Proofs.YtoifnnhbejofjaaDoor
end
