/- Texts joined: ProfR6, ProfBaseB. -/
import Derived.Test.YtoifnnhbejofjaaDoorBProfBaseB5
set_option linter.unusedSimpArgs false
set_option linter.unusedVariables false

/- The document's Parse. -/
section
set_option linter.unusedVariables false
namespace Go.Proofs.YtoifnnhbejofjaaDoor
open Go.RowKit Plain

set_option maxHeartbeats 8000000 in
set_option maxRecDepth 100000 in
theorem rparse_any (T : List Txt) (A : Option Addr) (c : Nat) (name : List UInt8) (w : World) (hR : IsRows w 2 A (T.map txtV)) (hl : T.length ≤ 9223372036854775807) (hx : ∀ x ∈ T, x.text.length ≤ 9223372036854775807) :
    Calls Tryd.prog 8 #[.slice A T.length c, .string ⟨name.toArray⟩] w (ParseOut w (parseP T name)) := by
  obtain ⟨out, hout⟩ : ∃ o, parseP T name = o := ⟨_, rfl⟩
  rw [hout]
  obtain ⟨W0, hW0⟩ : ∃ W0, (w.alloc (.cells #[.slice none 0 0, .slice none 0 0, .slice none 0 0, .int .i64 0, .int .i64 0, .bool false, .bool false] 27)).alloc (.cells #[.string ⟨#[]⟩, .string ⟨#[]⟩] 29) = W0 := ⟨_, rfl⟩
  have hsz : W0.heap.size = w.heap.size + 2 := by rw [← hW0]; simp
  have hB0 : Below w.heap.size w W0 := by
    rw [← hW0]
    exact ((Below.refl w.heap.size w).alloc (Nat.le_refl _) _).alloc (by simp) _
  have hq0 : W0.heap[w.heap.size]? = some (.cells #[.slice none 0 0, .slice none 0 0, .slice none 0 0, .int .i64 0, .int .i64 0, .bool false, .bool false] 27 (0, 0)) := by
    rw [← hW0, Below.heap_alloc _ _ _ (by simp)]; exact heap_alloc_new _ _
  have hq1 : W0.heap[w.heap.size + 1]? = some (.cells #[.string ⟨#[]⟩, .string ⟨#[]⟩] 29 (0, 0)) := by
    rw [← hW0]
    have := heap_alloc_new (w.alloc (.cells #[.slice none 0 0, .slice none 0 0, .slice none 0 0, .int .i64 0, .int .i64 0, .bool false, .bool false] 27)) (.cells #[.string ⟨#[]⟩, .string ⟨#[]⟩] 29)
    simpa using this
  have HF := Lib.hid (rfind_any T A c name W0 (hR.below hB0) hl)
  have HRW := Lib.hid (fun W (hW : Below w.heap.size w W) => hR.below hW)
  have HW0 := Lib.hid hW0
  have HB0 := Lib.hid hB0
  have HQ0 := Lib.hid hq0
  have HQ1 := Lib.hid hq1
  clear hW0 hB0 hR
  cases hf : findT T name with
  | none =>
    have hfI : findI T name = -1 := by unfold findI; rw [hf]
    rw [hfI] at HF
    have HOUT : Hid (out = (PF0, ⟨name, [48]⟩, 82)) := Lib.hid (by rw [← hout]; unfold parseP; rw [hf])
    clear hf hfI hout
    have q0 := cell_of_row W0 _ 0 _ _ _ hq0
    go_enter Tryd.func8, Tryd.ntmps8
    go_upto_region 1 with (fail)
    rw [HW0.out]
    go_wp2_with (fail)
    refine HF.out.mono ?_
    rintro e w1 ⟨rfl, hw1⟩
    have hk0 := (hw1.block w.heap.size (by omega)).trans HQ0.out
    have hk1 := (hw1.block (w.heap.size + 1) (by omega)).trans HQ1.out
    have HK0 := Lib.hid hk0
    have HK1 := Lib.hid hk1
    have p0 := cell_of_row w1 _ 0 _ _ _ hk0
    have p1 := cell_of_row w1 _ 1 _ _ _ hk0
    have p2 := cell_of_row w1 _ 2 _ _ _ hk0
    have p3 := cell_of_row w1 _ 3 _ _ _ hk0
    have p4 := cell_of_row w1 _ 4 _ _ _ hk0
    have p5 := cell_of_row w1 _ 5 _ _ _ hk0
    have p6 := cell_of_row w1 _ 6 _ _ _ hk0
    have t0 := cell_of_row w1 _ 0 _ _ _ hk1
    have t1 := cell_of_row w1 _ 1 _ _ _ hk1
    have z0 := fun i => frozen_of_row w1 w.heap.size i _ _ hk0
    have z1 := fun i => frozen_of_row w1 (w.heap.size + 1) i _ _ hk1
    have HB1 := Lib.hid (HB0.out.trans (hw1.mono (by omega)))
    clear hk0 hk1 hw1 q0
    go_wp2_with (fail)
    refine bodyPost_ret (results_rows_tmp Tryd.results8 _ _ w.heap.size (w.heap.size + 1) 27 29 _ _ (0, 0) (0, 0) _ _ rfl ((row2_ne (by omega)).trans (set_row7 HK0.out)) Tryd.underlying27 rfl size_pf rfl (set_row2 ((row7_ne (by omega)).trans HK1.out)) Tryd.underlying29 rfl size_txt) rfl ?_
    rw [HOUT.out]
    exact ⟨none, 0, none, 0, none, 0, rfl, pf0_at _, below_row2 (below_row7 HB1.out (Nat.le_refl _)) (by omega)⟩
  | some i =>
    have hfI : findI T name = (i : Int) := by unfold findI; rw [hf]
    rw [hfI] at HF
    have k0 : decide ((i : Int) < 0) = false := by rw [decide_eq_false_iff_not]; omega
    have hO1 : ∀ q, readP T 8 [] name PF0 = .ok q → out = (q, ⟨[], []⟩, 0) := fun q h => by rw [← hout]; unfold parseP; rw [hf]; simp only [h]
    have hO2 : ∀ x, readP T 8 [] name PF0 = .error x → out = (PF0, x.1, x.2) := fun x h => by rw [← hout]; unfold parseP; rw [hf]; simp only [h]
    have hne : findT T name ≠ none := by rw [hf]; simp
    have HRE := Lib.hid (readP_err T 8 [] name PF0)
    have HRA := Lib.hid (fun W (hW : Below w.heap.size w W) => (rread_any T A c hl hx 8 [] name PF0 none 0 none 0 none 0 none 0 W rfl (by decide) hne ⟨by decide, by decide, by decide⟩ (pf0_atT W) (HRW.out W hW) ⟨rfl, fun h => absurd h (by decide)⟩ : Calls Tryd.prog 15 #[.agg #[.slice none 0 0, .slice none 0 0, .slice none 0 0, .int .i64 0, .int .i64 0, .bool false, .bool false], .slice A T.length c, .string ⟨name.toArray⟩, .slice none 0 0] W (RReadOut W (readP T 8 [] name PF0))))
    generalize readP T 8 [] name PF0 = rr at *
    have HO1 := Lib.hid hO1
    have HO2 := Lib.hid hO2
    clear hf hfI hout hne hO1 hO2
    go_enter Tryd.func8, Tryd.ntmps8
    go_upto_region 1 with (fail)
    rw [HW0.out]
    go_wp2_with (fail)
    refine HF.out.mono ?_
    rintro e w1 ⟨rfl, hw1⟩
    have HB1 := Lib.hid hw1
    have HBW1 := Lib.hid (HB0.out.trans (hw1.mono (by omega)))
    have hs1 := hw1.size
    clear hw1
    go_wp2_with (fail)
    refine (HRA.out _ HBW1.out).mono ?_
    rintro e w2 ⟨C0, e0, C1, e1', C2, e2', q, tq, kq, rfl, hpq, hb2, hmt⟩
    unfold pfV
    have hB2 := HB1.out.trans (hb2.mono hs1)
    obtain ⟨Wq, hWq⟩ : ∃ Wq, (w2.alloc (.cells #[.slice C0 q.ign.length e0, .slice C1 q.bak.length e1', .slice C2 q.mrg.length e2', .int .i64 q.pre, .int .i64 q.frc, .bool q.bat, .bool q.fst] 27)).alloc (.cells #[.string ⟨tq.name.toArray⟩, .string ⟨tq.text.toArray⟩] 29) = Wq := ⟨_, rfl⟩
    have hbq : Below w2.heap.size w2 Wq := by rw [← hWq]; exact ((Below.refl _ _).alloc (Nat.le_refl _) _).alloc (by simp) _
    have hq1' : Wq.heap[w2.heap.size]? = some (.cells #[.slice C0 q.ign.length e0, .slice C1 q.bak.length e1', .slice C2 q.mrg.length e2', .int .i64 q.pre, .int .i64 q.frc, .bool q.bat, .bool q.fst] 27 (0, 0)) := by rw [← hWq, Below.heap_alloc _ _ _ (by simp)]; exact heap_alloc_new _ _
    have hq2' : Wq.heap[w2.heap.size + 1]? = some (.cells #[.string ⟨tq.name.toArray⟩, .string ⟨tq.text.toArray⟩] 29 (0, 0)) := by
      rw [← hWq]
      have := heap_alloc_new (w2.alloc (.cells #[.slice C0 q.ign.length e0, .slice C1 q.bak.length e1', .slice C2 q.mrg.length e2', .int .i64 q.pre, .int .i64 q.frc, .bool q.bat, .bool q.fst] 27)) (.cells #[.string ⟨tq.name.toArray⟩, .string ⟨tq.text.toArray⟩] 29)
      simpa using this
    have hs2 := hB2.size
    have hB3 := hB2.trans (hbq.mono hs2)
    have hk0 := (hB3.block w.heap.size (by omega)).trans HQ0.out
    have hk1 := (hB3.block (w.heap.size + 1) (by omega)).trans HQ1.out
    have HK0 := Lib.hid hk0
    have HK1 := Lib.hid hk1
    have p0 := cell_of_row Wq _ 0 _ _ _ hk0
    have p1 := cell_of_row Wq _ 1 _ _ _ hk0
    have p2' := cell_of_row Wq _ 2 _ _ _ hk0
    have p3 := cell_of_row Wq _ 3 _ _ _ hk0
    have p4 := cell_of_row Wq _ 4 _ _ _ hk0
    have p5 := cell_of_row Wq _ 5 _ _ _ hk0
    have p6 := cell_of_row Wq _ 6 _ _ _ hk0
    have t0 := cell_of_row Wq _ 0 _ _ _ hk1
    have t1 := cell_of_row Wq _ 1 _ _ _ hk1
    have z0 := fun i => frozen_of_row Wq w.heap.size i _ _ hk0
    have z1 := fun i => frozen_of_row Wq (w.heap.size + 1) i _ _ hk1
    have HPQ := Lib.hid (hpq.below hbq)
    have HBX := Lib.hid (HB0.out.trans (hB3.mono (show w.heap.size ≤ W0.heap.size by omega)))
    have HWQ := Lib.hid hWq
    have HQ1' := Lib.hid hq1'
    have HQ2' := Lib.hid hq2'
    clear hk0 hk1 hpq hb2 hB2 hbq hB3 hWq hq1' hq2' HRA HB1 HBW1 HF HRW HB0 HQ0 HQ1
    go_upto_region 4 with (fail)
    rw [HWQ.out]
    clear HWQ
    cases rr with
    | ok u =>
      obtain ⟨rfl, rfl, -⟩ := hmt
      have HO := Lib.hid (HO1.out _ rfl)
      have y0 := cell_of_row Wq _ 0 _ _ _ HQ1'.out
      have y1 := cell_of_row Wq _ 1 _ _ _ HQ1'.out
      have y2 := cell_of_row Wq _ 2 _ _ _ HQ1'.out
      have y3 := cell_of_row Wq _ 3 _ _ _ HQ1'.out
      have y4 := cell_of_row Wq _ 4 _ _ _ HQ1'.out
      have y5 := cell_of_row Wq _ 5 _ _ _ HQ1'.out
      have y6 := cell_of_row Wq _ 6 _ _ _ HQ1'.out
      clear HRE HO1 HO2
      go_wp2_with (fail)
      have hon := fun (a b c d e f h i j : Value) => only_row2 (S := fun k => k = w.heap.size ∨ k = w.heap.size + 1) (g := w.heap.size + 1) (a := i) (b := j) (only_row7 (S := fun k => k = w.heap.size ∨ k = w.heap.size + 1) (g := w.heap.size) (a := a) (b := b) (c := c) (d := d) (e := e) (f := f) (h := h) (Only.refl _ Wq) (.inl rfl)) (.inr rfl)
      have htg : ∀ k, (k = w.heap.size ∨ k = w.heap.size + 1) → ∃ C t fr, Wq.heap[k]? = some (.cells C t fr) ∧ t ≠ 67 ∧ t ≠ 54 := by
        rintro k (rfl | rfl)
        · exact ⟨_, _, _, HK0.out, by decide, by decide⟩
        · exact ⟨_, _, _, HK1.out, by decide, by decide⟩
      refine bodyPost_ret (results_rows_tmp Tryd.results8 _ _ w.heap.size (w.heap.size + 1) 27 29 _ _ (0, 0) (0, 0) _ _ rfl ((row2_ne (by omega)).trans (set_row7 HK0.out)) Tryd.underlying27 rfl size_pf rfl (set_row2 ((row7_ne (by omega)).trans HK1.out)) Tryd.underlying29 rfl size_txt) rfl ?_
      rw [HO.out]
      exact ⟨_, _, _, _, _, _, rfl, (HPQ.out.only (hon _ _ _ _ _ _ _ _ _) htg).1, below_row2 (below_row7 HBX.out (Nat.le_refl _)) (by omega)⟩
    | error x =>
      obtain ⟨rfl, rfl⟩ := hmt
      have hxe := HRE.out x rfl
      have HO := Lib.hid (HO2.out _ rfl)
      have gne : (((x.2 : Nat) : Int) != 0) = true := by rw [bne_iff_ne]; omega
      have y0 := cell_of_row Wq _ 0 _ _ _ HQ2'.out
      have y1 := cell_of_row Wq _ 1 _ _ _ HQ2'.out
      have n1 : w2.heap.size + 1 ≠ w.heap.size := by omega
      have n2 : w2.heap.size + 1 ≠ w.heap.size + 1 := by omega
      clear HRE hxe HO1 HO2
      go_wp2_with (fail)
      obtain ⟨WZ, hWZ⟩ : ∃ WZ, ((((((((((Wq.setCell ⟨w.heap.size, 0, none⟩ (.slice none 0 0)).setCell ⟨w.heap.size, 1, none⟩ (.slice none 0 0)).setCell ⟨w.heap.size, 2, none⟩ (.slice none 0 0)).setCell ⟨w.heap.size, 3, none⟩ (.int .i64 0)).setCell ⟨w.heap.size, 4, none⟩ (.int .i64 0)).setCell ⟨w.heap.size, 5, none⟩ (.bool false)).setCell ⟨w.heap.size, 6, none⟩ (.bool false)).setCell ⟨w.heap.size + 1, 0, none⟩ (.string ⟨x.1.name.toArray⟩)).setCell ⟨w.heap.size + 1, 1, none⟩ (.string ⟨x.1.text.toArray⟩))) = WZ := ⟨_, rfl⟩
      have HZ0 := Lib.hid (show WZ.heap[w.heap.size]? = _ from hWZ ▸ ((row2_ne (by omega)).trans (set_row7 HK0.out)))
      have HZ1 := Lib.hid (show WZ.heap[w.heap.size + 1]? = _ from hWZ ▸ (set_row2 ((row7_ne (by omega)).trans HK1.out)))
      have HZB := Lib.hid (show Below w.heap.size w WZ from hWZ ▸ (below_row2 (below_row7 HBX.out (Nat.le_refl _)) (by omega)))
      have HWZ := Lib.hid hWZ
      clear hWZ
      go_region
      go_wp2_with (fail)
      rw [HWZ.out]
      refine bodyPost_ret (results_rows_tmp Tryd.results8 _ WZ.drew w.heap.size (w.heap.size + 1) 27 29 _ _ (0, 0) (0, 0) _ _ rfl HZ0.out Tryd.underlying27 rfl size_pf rfl HZ1.out Tryd.underlying29 rfl size_txt) rfl ?_
      rw [HO.out]
      exact ⟨none, 0, none, 0, none, 0, rfl, pf0_at _, HZB.out.trans ⟨rfl, rfl, rfl, Nat.le_refl _, fun _ _ => rfl⟩⟩
end Go.Proofs.YtoifnnhbejofjaaDoor
end

/- The document's reading of texts. -/
section

end
