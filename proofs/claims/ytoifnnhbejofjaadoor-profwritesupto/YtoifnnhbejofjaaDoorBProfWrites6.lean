/- Texts joined: ProfW4. -/
import Derived.Test.YtoifnnhbejofjaaDoorBProfWrites5
import Derived.Deep.RegionHeld3
set_option linter.unusedSimpArgs false
set_option linter.unusedVariables false

/- prof.Print's closure rules. -/
section
set_option linter.unusedVariables false
namespace Go.Proofs.YtoifnnhbejofjaaDoor
open Go.RowKit Plain

/-- What stands behind some calls of say. -/
def SayAt (bo bb B : Nat) (l : List UInt8) (ok : Bool) (w w' : World) : Prop :=
  Lib.IsBuilderF 58 5 B bb (Lib.byteCells l) w' ∧ w'.heap[bo]? = some (.cells #[.bool ok] 4 (0, 0)) ∧ Below B w w' ∧ Kept2 bo bb w w'
def okI (l : List Rule) (i : Nat) : Bool := (l.take i).all (fun r => plainS r.pat) && decide (i ≤ 100)
theorem okI_succ {l : List Rule} {i : Nat} (h : i < l.length) : okI l (i + 1) = (okI l i && (plainS l[i].pat && decide (i < 100))) := by
  unfold okI
  rw [List.take_succ_eq_append_getElem h, List.all_append]
  simp only [List.all_cons, List.all_nil, Bool.and_true]
  have e : decide (i + 1 ≤ 100) = (decide (i ≤ 100) && decide (i < 100)) := by rw [Bool.eq_iff_iff]; simp; omega
  rw [e]
  cases (l.take i).all (fun r => plainS r.pat) <;> cases plainS l[i].pat <;> simp
theorem okI_all (l : List Rule) : okI l l.length = okRules l := by
  unfold okI okRules
  rw [List.take_of_length_le (Nat.le_refl _), Bool.and_comm]
theorem drewP (w : World) : Below w.heap.size w w.drew := ⟨rfl, rfl, rfl, Nat.le_refl _, fun _ _ => rfl⟩
theorem join_two (a b : List UInt8) : Lib.join [a, b] [32] = a ++ ([32] ++ b) := by simp [Lib.join]

set_option maxHeartbeats 8000000 in
set_option maxRecDepth 100000 in
theorem prules_any (l : List Rule) (A : Option Addr) (c : Nat) (no yes : List UInt8) (bo bb bf B : Nat) (L0 : List UInt8) (ok0 : Bool) (w : World)
    (hT : ∀ W, Below B w W → Tabs W) (hR : ∀ W, Below B w W → IsRows W 2 A (l.map rulV))
    (hf : w.heap[bf]? = some (.cells #[.func (.func 17) #[] #[.pointer (some ⟨bo, 0, none⟩), .pointer (some ⟨bb, 0, none⟩)]] 64 (0, 0)))
    (hs : SayAt bo bb B L0 ok0 w w) (hL : L0.length ≤ 35184372088832) (hne : bo ≠ bb) (hfo : bf ≠ bo) (hfb : bf ≠ bb) (hBo : B ≤ bo) (hbb : bb < w.heap.size)
    (hy : yes.length ≤ 100) (hn : no.length ≤ 100) (hl : l.length ≤ 1048576) (hp : ∀ r ∈ l, r.pat.length ≤ 1048576) :
    Calls Tryd.prog 20 #[.slice A l.length c, .string ⟨no.toArray⟩, .string ⟨yes.toArray⟩, .pointer (some ⟨bf, 0, none⟩)] w fun e w' => e = .returned (.tuple #[]) ∧ SayAt bo bb B (L0 ++ rulesL yes no l) (ok0 && okI l l.length) w w' := by
  have HT := Lib.hid hT
  have HR := Lib.hid hR
  have HF := Lib.hid hf
  have HP := Lib.hid hp
  have HS0 := Lib.hid hs
  have hblt : bo < w.heap.size := (Array.getElem?_eq_some_iff.1 hs.2.1).1
  clear hT hR hf hp hs
  go_enter Tryd.func20, Tryd.ntmps20
  go_wp2_with (fail)
  go_loopw [12] (fun t12 W => ∃ i : Nat, i ≤ l.length ∧ t12 = .int .i64 i ∧ Hid (SayAt bo bb B (L0 ++ rulesL yes no (l.take i)) (ok0 && okI l i) w W)) (fun t12 _ => l.length - (intOf t12).toNat)
  case atStart => exact ⟨0, by omega, rfl, Lib.hid (by have h := HS0.out; have e : (ok0 && okI l 0) = ok0 := by simp [okI]
                                                       rw [e]; simpa [rulesL] using h)⟩
  case round =>
    obtain ⟨i, hi, rfl, HS⟩ := hrel
    have i0 : (0 : Int) ≤ (i : Int) := by omega
    by_cases hlt : i < l.length
    · have i1 : (i : Int) < l.length := by omega
      have e1 : IntKind.i64.wrap ((i : Int) + 1) = (i : Int) + 1 := IntWalk.i64_in _ (by omega)
      have hB := HS.out.2.2.1
      have hmem := List.getElem_mem hlt
      have hpl := HP.out _ hmem
      obtain ⟨ad, rfl, x0, x1⟩ := pair_cells (HR.out _ hB) hlt (u := .bool l[i].ign) (v := .string ⟨l[i].pat.toArray⟩) rfl
      have hrl : rulesL yes no (l.take (i + 1)) = rulesL yes no (l.take i) ++ ((if l[i].ign then yes else no) ++ ([32] ++ l[i].pat) ++ [10]) := by
        rw [List.take_succ_eq_append_getElem hlt]; unfold rulesL; rw [List.flatMap_append, List.flatMap_singleton]; simp [ruleL]
      have hok := okI_succ hlt
      have hll : (rulesL yes no (l.take i)).length ≤ (l.take i).length * 1048678 := rulesL_length yes no hy hn _ (fun r hr => HP.out r (List.mem_of_mem_take hr))
      rw [List.length_take] at hll
      have hll2 : (rulesL yes no (l.take i)).length ≤ 2199023255552 := by
        have : min i l.length ≤ 1048576 := by omega
        omega
      have HRL := Lib.hid hrl
      have HOK := Lib.hid hok
      clear hmem hrl hok hll
      generalize l[i] = r at *
      obtain ⟨pt, ig⟩ := r
      simp only at x0 x1 hpl HRL HOK
      obtain ⟨L, hLe⟩ : ∃ L, L0 ++ rulesL yes no (l.take i) = L := ⟨_, rfl⟩
      have hLL : L.length ≤ 70368744177664 := by rw [← hLe, List.length_append]; omega
      obtain ⟨okb, hokb⟩ : ∃ b, (ok0 && okI l i) = b := ⟨_, rfl⟩
      rw [hLe, hokb] at HS
      obtain ⟨W1, hW1⟩ : ∃ W1, wr.alloc (.cells #[.bool ig, .string ⟨pt.toArray⟩] 67) = W1 := ⟨_, rfl⟩
      have hb1 : Below wr.heap.size wr W1 := by rw [← hW1]; exact (Below.refl _ _).alloc (Nat.le_refl _) _
      have hr1 : W1.heap[wr.heap.size]? = some (.cells #[.bool ig, .string ⟨pt.toArray⟩] 67 (0, 0)) := by rw [← hW1]; exact heap_alloc_new _ _
      have hz1 : wr.heap.size < W1.heap.size := by rw [← hW1]; simp
      have hBs : B ≤ wr.heap.size := by have := hB.size; omega
      have hwz := hB.size
      have hfw : wr.heap[bf]? = _ := HS.out.2.2.2 bf _ HF.out hfo hfb (fun c fz h => by injection h with _ h2 _; revert h2; decide)
      have hf1 := (hb1.block bf (Array.getElem?_eq_some_iff.1 hfw).1).trans hfw
      have hfz : bf < W1.heap.size := (Array.getElem?_eq_some_iff.1 hf1).1
      obtain ⟨wd, hwd⟩ : ∃ wd, (if ig then yes else no) = wd := ⟨_, rfl⟩
      have hwl : wd.length ≤ 100 := by rw [← hwd]; cases ig <;> simp <;> omega
      rw [hwd] at HRL
      have HCL : Hid (∀ W, Below W1.heap.size W1 W → W.cell? ⟨bf, 0, none⟩ = some (.func (.func 17) #[] #[.pointer (some ⟨bo, 0, none⟩), .pointer (some ⟨bb, 0, none⟩)]) ∧ W.cell? ⟨wr.heap.size, 0, none⟩ = some (.bool ig) ∧ W.cell? ⟨wr.heap.size, 1, none⟩ = some (.string ⟨pt.toArray⟩)) := Lib.hid (fun W hW =>
        ⟨cell_of_row _ _ 0 _ _ _ ((hW.block _ hfz).trans hf1), cell_of_row _ _ 0 _ _ _ ((hW.block _ hz1).trans hr1), cell_of_row _ _ 1 _ _ _ ((hW.block _ hz1).trans hr1)⟩)
      have HPA := Lib.hid (fun W (hW : Below W1.heap.size W1 W) => pplain_any pt W (HT.out W (hB.trans ((hb1.trans (hW.mono hb1.size)).mono hBs))) (by omega))
      have HSAY : Hid (∀ (good : Bool) (W : World) (g : Nat), Below W1.heap.size W1 W → W.heap[g]? = some (.cells #[.string ⟨wd.toArray⟩, .string ⟨pt.toArray⟩] 9 (0, 0)) → g ≠ bo →
          Calls Tryd.prog 17 #[.bool good, .slice (some ⟨g, 0, none⟩) 2 2, .pointer (some ⟨bo, 0, none⟩), .pointer (some ⟨bb, 0, none⟩)] W fun e w' => e = .returned (.tuple #[]) ∧ SayAt bo bb B (L0 ++ rulesL yes no (l.take (i + 1))) (okb && good) w w' ∧ (w'.cell? ⟨bf, 0, none⟩ = some (.func (.func 17) #[] #[.pointer (some ⟨bo, 0, none⟩), .pointer (some ⟨bb, 0, none⟩)]) ∧ w'.cell? ⟨wr.heap.size, 0, none⟩ = some (.bool ig) ∧ w'.cell? ⟨wr.heap.size, 1, none⟩ = some (.string ⟨pt.toArray⟩))) := Lib.hid (fun good W g hW hg hgo => by
        have hbW := hb1.trans (hW.mono hb1.size)
        have hok := (hbW.block bo (by omega)).trans HS.out.2.1
        have hrd : Reads W 1 (some ⟨g, 0, none⟩) 2 (strs [wd, pt]) := ⟨rfl, fun _ => ⟨_, rfl, fun j u hj => by
          have e : (⟨g, 0, none⟩ : Addr).add j = ⟨g, j, none⟩ := by unfold Addr.add; split <;> simp_all
          rw [e, cell_of_row _ _ j _ _ _ hg]
          simpa [strs, strV] using hj⟩⟩
        refine (psay_any good okb L [wd, pt] (some ⟨g, 0, none⟩) 2 bo bb B W hrd (fun a ha => by injection ha with ha; rw [← ha]; exact hgo) (by simp) (Nat.le_refl _) (by simp) (by rw [join_two]; simp; omega) hok (builder_below HS.out.1 hbW) hLL hne hBo).mono ?_
        rintro e w' ⟨he, h1, h2, h3, h4⟩
        have k1 := h4 bf _ ((hW.block bf hfz).trans hf1) hfo hfb (fun c fz h => by injection h with _ h2 _; revert h2; decide)
        have k2 := h4 wr.heap.size _ ((hW.block _ hz1).trans hr1) (by omega) (by omega) (fun c fz h => by injection h with _ h2 _; revert h2; decide)
        refine ⟨he, ⟨?_, h2, hB.trans ((hbW.mono hBs).trans h3), HS.out.2.2.2.trans ((Kept2.of_below hbW).trans h4)⟩, cell_of_row _ _ 0 _ _ _ k1, cell_of_row _ _ 0 _ _ _ k2, cell_of_row _ _ 1 _ _ _ k2⟩
        rw [join_two, ← hLe] at h1
        rw [HRL.out, ← List.append_assoc]
        exact h1)
      have HEND : Hid (∀ w' good, (plainS pt && decide (i < 100)) = good → SayAt bo bb B (L0 ++ rulesL yes no (l.take (i + 1))) (okb && good) w w' → SayAt bo bb B (L0 ++ rulesL yes no (l.take (i + 1))) (ok0 && okI l (i + 1)) w w') := Lib.hid (fun w' good hg h => by
        rw [HOK.out, hg, ← Bool.and_assoc, hokb]; exact h)
      have HW1 := Lib.hid hW1
      have hgo : ∀ W, Below W1.heap.size W1 W → W.heap.size ≠ bo := fun W hW => by have := hW.size; omega
      have HGO := Lib.hid hgo
      have HB1 := Lib.hid hb1
      have HWD := Lib.hid hwd
      clear hW1 hr1 hfw hf1 hB hb1 hgo hwd HS HOK HRL hLe hokb
      obtain ⟨pl, hpl2⟩ : ∃ b, plainS pt = b := ⟨_, rfl⟩
      rw [hpl2] at HPA HEND
      clear hpl2
      cases ig with
      | false =>
        obtain rfl : no = wd := HWD.out
        clear HWD
        go_upto_region 6 with (fail)
        rw [HW1.out]
        cases pl with
        | false =>
          have HX := Lib.hid (drewP W1)
          refine wp_region_noPanic ?_
          refine wp_region_held_drew (S := fun W => W.cell? ⟨bf, 0, none⟩ = some (.func (.func 17) #[] #[.pointer (some ⟨bo, 0, none⟩), .pointer (some ⟨bb, 0, none⟩)]) ∧ W.cell? ⟨wr.heap.size, 0, none⟩ = some (.bool false) ∧ W.cell? ⟨wr.heap.size, 1, none⟩ = some (.string ⟨pt.toArray⟩)) (by kernel_rfl) (HCL.out _ HX.out) (fun hHeld => ?_)
          refine wpAnyH_take (i := 0) (oi := _) (v := ?_) rfl (by kernel_rfl) (by kernel_rfl) (by kernel_rfl) (fun _ _ _ h => h) (Or.inl ⟨by rfl, ?_⟩) (by assumption) ?_
          rotate_left 1
          · intro w hSw
            (try dsimp only at hSw)
            go_simp
            (try with_reducible rfl)
          try simp only [List.getElem_toArray, List.getElem_cons_zero, List.getElem_cons_succ, Act.put, List.setIfInBounds_toArray, List.set_cons_zero, List.set_cons_succ]
          refine wpAnyH_take (i := 1) (oi := _) (v := ?_) rfl (by kernel_rfl) (by kernel_rfl) (by kernel_rfl) (fun _ _ _ h => h) (Or.inl ⟨by rfl, ?_⟩) (by assumption) ?_
          rotate_left 1
          · intro w hSw
            (try dsimp only at hSw)
            go_simp
            (try with_reducible rfl)
          try simp only [List.getElem_toArray, List.getElem_cons_zero, List.getElem_cons_succ, Act.put, List.setIfInBounds_toArray, List.set_cons_zero, List.set_cons_succ]
          refine wpAnyH_take (i := 2) (oi := _) (v := ?_) rfl (by kernel_rfl) (by kernel_rfl) (by kernel_rfl) (fun _ _ _ h => h) (Or.inl ⟨by rfl, ?_⟩) (by assumption) ?_
          rotate_left 1
          · intro w hSw
            (try dsimp only at hSw)
            go_simp
            (try with_reducible rfl)
          try simp only [List.getElem_toArray, List.getElem_cons_zero, List.getElem_cons_succ, Act.put, List.setIfInBounds_toArray, List.set_cons_zero, List.set_cons_succ]
          refine wpAnyH_take (i := 8) (oi := _) (v := ?_) rfl (by kernel_rfl) (by kernel_rfl) (by kernel_rfl) (fun _ _ _ h => h) (Or.inl ⟨by rfl, ?_⟩) (by assumption) ?_
          rotate_left 1
          · intro w hSw
            (try dsimp only at hSw)
            go_simp
            (try with_reducible rfl)
          try simp only [List.getElem_toArray, List.getElem_cons_zero, List.getElem_cons_succ, Act.put, List.setIfInBounds_toArray, List.set_cons_zero, List.set_cons_succ]
          refine wpAnyH_take (i := 9) (oi := _) (v := ?_) rfl (by kernel_rfl) (by kernel_rfl) (by kernel_rfl) (fun _ _ _ h => h) (Or.inl ⟨by rfl, ?_⟩) (by assumption) ?_
          rotate_left 1
          · intro w hSw
            (try dsimp only at hSw)
            go_simp
            (try with_reducible rfl)
          try simp only [List.getElem_toArray, List.getElem_cons_zero, List.getElem_cons_succ, Act.put, List.setIfInBounds_toArray, List.set_cons_zero, List.set_cons_succ]
          refine wpAnyH_take (i := 10) (oi := _) (v := ?_) rfl (by kernel_rfl) (by kernel_rfl) (by kernel_rfl) (fun _ _ _ h => h) (Or.inl ⟨by rfl, ?_⟩) (by assumption) ?_
          rotate_left 1
          · intro w hSw
            (try dsimp only at hSw)
            go_simp
            (try with_reducible rfl)
          try simp only [List.getElem_toArray, List.getElem_cons_zero, List.getElem_cons_succ, Act.put, List.setIfInBounds_toArray, List.set_cons_zero, List.set_cons_succ]
          refine wpAnyH_ready (rs := [3, 11]) (by kernel_rfl) (by simp) ?_
          refine AllReadyH.cons (o := _) rfl (fun K hK => ?_) ?_
          · go_simp
            refine (HPA.out _ HX.out).mono ?_
            rintro e w9 ⟨rfl, hw9⟩
            have HY := Lib.hid (HX.out.trans (hw9.mono HX.out.size))
            have HX := Lib.hid HY.out
            clear HY hw9
            (try go_wp2_with (fail))
            refine hK.out _ _ (HCL.out _ HX.out) (fun hHeld => ?_)
            clear hK K
            try simp only [List.getElem_toArray, List.getElem_cons_zero, List.getElem_cons_succ, Act.put, List.setIfInBounds_toArray, List.set_cons_zero, List.set_cons_succ]
            refine wpAnyH_take (i := 4) (oi := _) (v := ?_) rfl (by kernel_rfl) (by kernel_rfl) (by kernel_rfl) (fun _ _ _ h => h) (Or.inl ⟨by rfl, ?_⟩) (by assumption) ?_
            rotate_left 1
            · intro w hSw
              (try dsimp only at hSw)
              go_simp
              (try with_reducible rfl)
            try simp only [List.getElem_toArray, List.getElem_cons_zero, List.getElem_cons_succ, Act.put, List.setIfInBounds_toArray, List.set_cons_zero, List.set_cons_succ]
            refine wpAnyH_take (i := 5) (oi := _) (v := undef) rfl (by kernel_rfl) (by kernel_rfl) (by kernel_rfl) (fun _ _ _ h => h) (Or.inr ⟨by rfl, rfl⟩) (by assumption) ?_
            try simp only [List.getElem_toArray, List.getElem_cons_zero, List.getElem_cons_succ, Act.put, List.setIfInBounds_toArray, List.set_cons_zero, List.set_cons_succ]
            refine wpAnyH_take (i := 6) (oi := _) (v := undef) rfl (by kernel_rfl) (by kernel_rfl) (by kernel_rfl) (fun _ _ _ h => h) (Or.inr ⟨by rfl, rfl⟩) (by assumption) ?_
            try simp only [List.getElem_toArray, List.getElem_cons_zero, List.getElem_cons_succ, Act.put, List.setIfInBounds_toArray, List.set_cons_zero, List.set_cons_succ]
            refine wpAnyH_take (i := 7) (oi := _) (v := ?_) rfl (by kernel_rfl) (by kernel_rfl) (by kernel_rfl) (fun _ _ _ h => h) (Or.inl ⟨by rfl, ?_⟩) (by assumption) ?_
            rotate_left 1
            · intro w hSw
              (try dsimp only at hSw)
              go_simp
              (try with_reducible rfl)
            try simp only [List.getElem_toArray, List.getElem_cons_zero, List.getElem_cons_succ, Act.put, List.setIfInBounds_toArray, List.set_cons_zero, List.set_cons_succ]
            refine wpAnyH_ready (rs := [11]) (by kernel_rfl) (by simp) ?_
            refine AllReadyH.cons (o := _) rfl (fun K hK => ?_) AllReadyH.nil
            go_simp
            have HN := Lib.hid (And.intro (heap_alloc_new (w9) (.cells #[.string ⟨no.toArray⟩, .string ⟨pt.toArray⟩] 9)) (HGO.out _ HX.out))
            have HX := Lib.hid (HX.out.alloc HX.out.size (.cells #[.string ⟨no.toArray⟩, .string ⟨pt.toArray⟩] 9))
            refine hK.out _ _ (HCL.out _ HX.out) (fun hHeld => ?_)
            clear hK K
            try simp only [List.getElem_toArray, List.getElem_cons_zero, List.getElem_cons_succ, Act.put, List.setIfInBounds_toArray, List.set_cons_zero, List.set_cons_succ]
            refine wpAnyH_ready (rs := [12]) (by kernel_rfl) (by simp) ?_
            refine AllReadyH.cons (o := _) rfl (fun K hK => ?_) AllReadyH.nil
            go_simp
            refine (HSAY.out _ _ _ HX.out HN.out.1 HN.out.2).mono ?_
            rintro e w10 ⟨rfl, h10, s7⟩
            have HS10 := Lib.hid h10
            clear h10
            (try go_wp2_with (fail))
            refine hK.out _ _ s7 (fun hHeld => ?_)
            clear hK K
            try simp only [List.getElem_toArray, List.getElem_cons_zero, List.getElem_cons_succ, Act.put, List.setIfInBounds_toArray, List.set_cons_zero, List.set_cons_succ]
            refine wpAnyH_done (by kernel_rfl) ?_ _
            refine NoPanic.normal ?_
            go_wp2_with (fail)
            go_roundw
            case rel => exact ⟨i + 1, by omega, by go_num, Lib.hid (HEND.out _ false (by simp) HS10.out)⟩
            case measure => simp [intOf]; omega
          refine AllReadyH.cons (o := _) rfl (fun K hK => ?_) AllReadyH.nil
          go_simp
          have HN := Lib.hid (And.intro (heap_alloc_new (W1.drew) (.cells #[.string ⟨no.toArray⟩, .string ⟨pt.toArray⟩] 9)) (HGO.out _ HX.out))
          have HX := Lib.hid (HX.out.alloc HX.out.size (.cells #[.string ⟨no.toArray⟩, .string ⟨pt.toArray⟩] 9))
          refine hK.out _ _ (HCL.out _ HX.out) (fun hHeld => ?_)
          clear hK K
          try simp only [List.getElem_toArray, List.getElem_cons_zero, List.getElem_cons_succ, Act.put, List.setIfInBounds_toArray, List.set_cons_zero, List.set_cons_succ]
          refine wpAnyH_ready (rs := [3]) (by kernel_rfl) (by simp) ?_
          refine AllReadyH.cons (o := _) rfl (fun K hK => ?_) AllReadyH.nil
          go_simp
          refine (HPA.out _ HX.out).mono ?_
          rintro e w9 ⟨rfl, hw9⟩
          have HY := Lib.hid (HX.out.trans (hw9.mono HX.out.size))
          have HN := Lib.hid (And.intro ((hw9.block _ (Array.getElem?_eq_some_iff.1 HN.out.1).1).trans HN.out.1) HN.out.2)
          have HX := Lib.hid HY.out
          clear HY hw9
          (try go_wp2_with (fail))
          refine hK.out _ _ (HCL.out _ HX.out) (fun hHeld => ?_)
          clear hK K
          try simp only [List.getElem_toArray, List.getElem_cons_zero, List.getElem_cons_succ, Act.put, List.setIfInBounds_toArray, List.set_cons_zero, List.set_cons_succ]
          refine wpAnyH_take (i := 4) (oi := _) (v := ?_) rfl (by kernel_rfl) (by kernel_rfl) (by kernel_rfl) (fun _ _ _ h => h) (Or.inl ⟨by rfl, ?_⟩) (by assumption) ?_
          rotate_left 1
          · intro w hSw
            (try dsimp only at hSw)
            go_simp
            (try with_reducible rfl)
          try simp only [List.getElem_toArray, List.getElem_cons_zero, List.getElem_cons_succ, Act.put, List.setIfInBounds_toArray, List.set_cons_zero, List.set_cons_succ]
          refine wpAnyH_take (i := 5) (oi := _) (v := undef) rfl (by kernel_rfl) (by kernel_rfl) (by kernel_rfl) (fun _ _ _ h => h) (Or.inr ⟨by rfl, rfl⟩) (by assumption) ?_
          try simp only [List.getElem_toArray, List.getElem_cons_zero, List.getElem_cons_succ, Act.put, List.setIfInBounds_toArray, List.set_cons_zero, List.set_cons_succ]
          refine wpAnyH_take (i := 6) (oi := _) (v := undef) rfl (by kernel_rfl) (by kernel_rfl) (by kernel_rfl) (fun _ _ _ h => h) (Or.inr ⟨by rfl, rfl⟩) (by assumption) ?_
          try simp only [List.getElem_toArray, List.getElem_cons_zero, List.getElem_cons_succ, Act.put, List.setIfInBounds_toArray, List.set_cons_zero, List.set_cons_succ]
          refine wpAnyH_take (i := 7) (oi := _) (v := ?_) rfl (by kernel_rfl) (by kernel_rfl) (by kernel_rfl) (fun _ _ _ h => h) (Or.inl ⟨by rfl, ?_⟩) (by assumption) ?_
          rotate_left 1
          · intro w hSw
            (try dsimp only at hSw)
            go_simp
            (try with_reducible rfl)
          try simp only [List.getElem_toArray, List.getElem_cons_zero, List.getElem_cons_succ, Act.put, List.setIfInBounds_toArray, List.set_cons_zero, List.set_cons_succ]
          refine wpAnyH_ready (rs := [12]) (by kernel_rfl) (by simp) ?_
          refine AllReadyH.cons (o := _) rfl (fun K hK => ?_) AllReadyH.nil
          go_simp
          refine (HSAY.out _ _ _ HX.out HN.out.1 HN.out.2).mono ?_
          rintro e w10 ⟨rfl, h10, s7⟩
          have HS10 := Lib.hid h10
          clear h10
          (try go_wp2_with (fail))
          refine hK.out _ _ s7 (fun hHeld => ?_)
          clear hK K
          try simp only [List.getElem_toArray, List.getElem_cons_zero, List.getElem_cons_succ, Act.put, List.setIfInBounds_toArray, List.set_cons_zero, List.set_cons_succ]
          refine wpAnyH_done (by kernel_rfl) ?_ _
          refine NoPanic.normal ?_
          go_wp2_with (fail)
          go_roundw
          case rel => exact ⟨i + 1, by omega, by go_num, Lib.hid (HEND.out _ false (by simp) HS10.out)⟩
          case measure => simp [intOf]; omega
        | true =>
          by_cases h100 : i < 100
          · have g : (i : Int) < 100 := by omega
            have HI := Lib.hid h100
            clear h100
            have HX := Lib.hid (drewP W1)
            refine wp_region_noPanic ?_
            refine wp_region_held_drew (S := fun W => W.cell? ⟨bf, 0, none⟩ = some (.func (.func 17) #[] #[.pointer (some ⟨bo, 0, none⟩), .pointer (some ⟨bb, 0, none⟩)]) ∧ W.cell? ⟨wr.heap.size, 0, none⟩ = some (.bool false) ∧ W.cell? ⟨wr.heap.size, 1, none⟩ = some (.string ⟨pt.toArray⟩)) (by kernel_rfl) (HCL.out _ HX.out) (fun hHeld => ?_)
            refine wpAnyH_take (i := 0) (oi := _) (v := ?_) rfl (by kernel_rfl) (by kernel_rfl) (by kernel_rfl) (fun _ _ _ h => h) (Or.inl ⟨by rfl, ?_⟩) (by assumption) ?_
            rotate_left 1
            · intro w hSw
              (try dsimp only at hSw)
              go_simp
              (try with_reducible rfl)
            try simp only [List.getElem_toArray, List.getElem_cons_zero, List.getElem_cons_succ, Act.put, List.setIfInBounds_toArray, List.set_cons_zero, List.set_cons_succ]
            refine wpAnyH_take (i := 1) (oi := _) (v := ?_) rfl (by kernel_rfl) (by kernel_rfl) (by kernel_rfl) (fun _ _ _ h => h) (Or.inl ⟨by rfl, ?_⟩) (by assumption) ?_
            rotate_left 1
            · intro w hSw
              (try dsimp only at hSw)
              go_simp
              (try with_reducible rfl)
            try simp only [List.getElem_toArray, List.getElem_cons_zero, List.getElem_cons_succ, Act.put, List.setIfInBounds_toArray, List.set_cons_zero, List.set_cons_succ]
            refine wpAnyH_take (i := 2) (oi := _) (v := ?_) rfl (by kernel_rfl) (by kernel_rfl) (by kernel_rfl) (fun _ _ _ h => h) (Or.inl ⟨by rfl, ?_⟩) (by assumption) ?_
            rotate_left 1
            · intro w hSw
              (try dsimp only at hSw)
              go_simp
              (try with_reducible rfl)
            try simp only [List.getElem_toArray, List.getElem_cons_zero, List.getElem_cons_succ, Act.put, List.setIfInBounds_toArray, List.set_cons_zero, List.set_cons_succ]
            refine wpAnyH_take (i := 8) (oi := _) (v := ?_) rfl (by kernel_rfl) (by kernel_rfl) (by kernel_rfl) (fun _ _ _ h => h) (Or.inl ⟨by rfl, ?_⟩) (by assumption) ?_
            rotate_left 1
            · intro w hSw
              (try dsimp only at hSw)
              go_simp
              (try with_reducible rfl)
            try simp only [List.getElem_toArray, List.getElem_cons_zero, List.getElem_cons_succ, Act.put, List.setIfInBounds_toArray, List.set_cons_zero, List.set_cons_succ]
            refine wpAnyH_take (i := 9) (oi := _) (v := ?_) rfl (by kernel_rfl) (by kernel_rfl) (by kernel_rfl) (fun _ _ _ h => h) (Or.inl ⟨by rfl, ?_⟩) (by assumption) ?_
            rotate_left 1
            · intro w hSw
              (try dsimp only at hSw)
              go_simp
              (try with_reducible rfl)
            try simp only [List.getElem_toArray, List.getElem_cons_zero, List.getElem_cons_succ, Act.put, List.setIfInBounds_toArray, List.set_cons_zero, List.set_cons_succ]
            refine wpAnyH_take (i := 10) (oi := _) (v := ?_) rfl (by kernel_rfl) (by kernel_rfl) (by kernel_rfl) (fun _ _ _ h => h) (Or.inl ⟨by rfl, ?_⟩) (by assumption) ?_
            rotate_left 1
            · intro w hSw
              (try dsimp only at hSw)
              go_simp
              (try with_reducible rfl)
            try simp only [List.getElem_toArray, List.getElem_cons_zero, List.getElem_cons_succ, Act.put, List.setIfInBounds_toArray, List.set_cons_zero, List.set_cons_succ]
            refine wpAnyH_ready (rs := [3, 11]) (by kernel_rfl) (by simp) ?_
            refine AllReadyH.cons (o := _) rfl (fun K hK => ?_) ?_
            · go_simp
              refine (HPA.out _ HX.out).mono ?_
              rintro e w9 ⟨rfl, hw9⟩
              have HY := Lib.hid (HX.out.trans (hw9.mono HX.out.size))
              have HX := Lib.hid HY.out
              clear HY hw9
              (try go_wp2_with (fail))
              refine hK.out _ _ (HCL.out _ HX.out) (fun hHeld => ?_)
              clear hK K
              try simp only [List.getElem_toArray, List.getElem_cons_zero, List.getElem_cons_succ, Act.put, List.setIfInBounds_toArray, List.set_cons_zero, List.set_cons_succ]
              refine wpAnyH_take (i := 4) (oi := _) (v := ?_) rfl (by kernel_rfl) (by kernel_rfl) (by kernel_rfl) (fun _ _ _ h => h) (Or.inl ⟨by rfl, ?_⟩) (by assumption) ?_
              rotate_left 1
              · intro w hSw
                (try dsimp only at hSw)
                go_simp
                (try with_reducible rfl)
              try simp only [List.getElem_toArray, List.getElem_cons_zero, List.getElem_cons_succ, Act.put, List.setIfInBounds_toArray, List.set_cons_zero, List.set_cons_succ]
              refine wpAnyH_take (i := 5) (oi := _) (v := ?_) rfl (by kernel_rfl) (by kernel_rfl) (by kernel_rfl) (fun _ _ _ h => h) (Or.inl ⟨by rfl, ?_⟩) (by assumption) ?_
              rotate_left 1
              · intro w hSw
                (try dsimp only at hSw)
                go_simp
                (try with_reducible rfl)
              try simp only [List.getElem_toArray, List.getElem_cons_zero, List.getElem_cons_succ, Act.put, List.setIfInBounds_toArray, List.set_cons_zero, List.set_cons_succ]
              refine wpAnyH_take (i := 6) (oi := _) (v := ?_) rfl (by kernel_rfl) (by kernel_rfl) (by kernel_rfl) (fun _ _ _ h => h) (Or.inl ⟨by rfl, ?_⟩) (by assumption) ?_
              rotate_left 1
              · intro w hSw
                (try dsimp only at hSw)
                go_simp
                (try with_reducible rfl)
              try simp only [List.getElem_toArray, List.getElem_cons_zero, List.getElem_cons_succ, Act.put, List.setIfInBounds_toArray, List.set_cons_zero, List.set_cons_succ]
              refine wpAnyH_take (i := 7) (oi := _) (v := ?_) rfl (by kernel_rfl) (by kernel_rfl) (by kernel_rfl) (fun _ _ _ h => h) (Or.inl ⟨by rfl, ?_⟩) (by assumption) ?_
              rotate_left 1
              · intro w hSw
                (try dsimp only at hSw)
                go_simp
                (try with_reducible rfl)
              try simp only [List.getElem_toArray, List.getElem_cons_zero, List.getElem_cons_succ, Act.put, List.setIfInBounds_toArray, List.set_cons_zero, List.set_cons_succ]
              refine wpAnyH_ready (rs := [11]) (by kernel_rfl) (by simp) ?_
              refine AllReadyH.cons (o := _) rfl (fun K hK => ?_) AllReadyH.nil
              go_simp
              have HN := Lib.hid (And.intro (heap_alloc_new (w9) (.cells #[.string ⟨no.toArray⟩, .string ⟨pt.toArray⟩] 9)) (HGO.out _ HX.out))
              have HX := Lib.hid (HX.out.alloc HX.out.size (.cells #[.string ⟨no.toArray⟩, .string ⟨pt.toArray⟩] 9))
              refine hK.out _ _ (HCL.out _ HX.out) (fun hHeld => ?_)
              clear hK K
              try simp only [List.getElem_toArray, List.getElem_cons_zero, List.getElem_cons_succ, Act.put, List.setIfInBounds_toArray, List.set_cons_zero, List.set_cons_succ]
              refine wpAnyH_ready (rs := [12]) (by kernel_rfl) (by simp) ?_
              refine AllReadyH.cons (o := _) rfl (fun K hK => ?_) AllReadyH.nil
              go_simp
              refine (HSAY.out _ _ _ HX.out HN.out.1 HN.out.2).mono ?_
              rintro e w10 ⟨rfl, h10, s7⟩
              have HS10 := Lib.hid h10
              clear h10
              (try go_wp2_with (fail))
              refine hK.out _ _ s7 (fun hHeld => ?_)
              clear hK K
              try simp only [List.getElem_toArray, List.getElem_cons_zero, List.getElem_cons_succ, Act.put, List.setIfInBounds_toArray, List.set_cons_zero, List.set_cons_succ]
              refine wpAnyH_done (by kernel_rfl) ?_ _
              refine NoPanic.normal ?_
              go_wp2_with (fail)
              go_roundw
              case rel => exact ⟨i + 1, by omega, by go_num, Lib.hid (HEND.out _ true (by simp [HI.out]) HS10.out)⟩
              case measure => simp [intOf]; omega
            refine AllReadyH.cons (o := _) rfl (fun K hK => ?_) AllReadyH.nil
            go_simp
            have HN := Lib.hid (And.intro (heap_alloc_new (W1.drew) (.cells #[.string ⟨no.toArray⟩, .string ⟨pt.toArray⟩] 9)) (HGO.out _ HX.out))
            have HX := Lib.hid (HX.out.alloc HX.out.size (.cells #[.string ⟨no.toArray⟩, .string ⟨pt.toArray⟩] 9))
            refine hK.out _ _ (HCL.out _ HX.out) (fun hHeld => ?_)
            clear hK K
            try simp only [List.getElem_toArray, List.getElem_cons_zero, List.getElem_cons_succ, Act.put, List.setIfInBounds_toArray, List.set_cons_zero, List.set_cons_succ]
            refine wpAnyH_ready (rs := [3]) (by kernel_rfl) (by simp) ?_
            refine AllReadyH.cons (o := _) rfl (fun K hK => ?_) AllReadyH.nil
            go_simp
            refine (HPA.out _ HX.out).mono ?_
            rintro e w9 ⟨rfl, hw9⟩
            have HY := Lib.hid (HX.out.trans (hw9.mono HX.out.size))
            have HN := Lib.hid (And.intro ((hw9.block _ (Array.getElem?_eq_some_iff.1 HN.out.1).1).trans HN.out.1) HN.out.2)
            have HX := Lib.hid HY.out
            clear HY hw9
            (try go_wp2_with (fail))
            refine hK.out _ _ (HCL.out _ HX.out) (fun hHeld => ?_)
            clear hK K
            try simp only [List.getElem_toArray, List.getElem_cons_zero, List.getElem_cons_succ, Act.put, List.setIfInBounds_toArray, List.set_cons_zero, List.set_cons_succ]
            refine wpAnyH_take (i := 4) (oi := _) (v := ?_) rfl (by kernel_rfl) (by kernel_rfl) (by kernel_rfl) (fun _ _ _ h => h) (Or.inl ⟨by rfl, ?_⟩) (by assumption) ?_
            rotate_left 1
            · intro w hSw
              (try dsimp only at hSw)
              go_simp
              (try with_reducible rfl)
            try simp only [List.getElem_toArray, List.getElem_cons_zero, List.getElem_cons_succ, Act.put, List.setIfInBounds_toArray, List.set_cons_zero, List.set_cons_succ]
            refine wpAnyH_take (i := 5) (oi := _) (v := ?_) rfl (by kernel_rfl) (by kernel_rfl) (by kernel_rfl) (fun _ _ _ h => h) (Or.inl ⟨by rfl, ?_⟩) (by assumption) ?_
            rotate_left 1
            · intro w hSw
              (try dsimp only at hSw)
              go_simp
              (try with_reducible rfl)
            try simp only [List.getElem_toArray, List.getElem_cons_zero, List.getElem_cons_succ, Act.put, List.setIfInBounds_toArray, List.set_cons_zero, List.set_cons_succ]
            refine wpAnyH_take (i := 6) (oi := _) (v := ?_) rfl (by kernel_rfl) (by kernel_rfl) (by kernel_rfl) (fun _ _ _ h => h) (Or.inl ⟨by rfl, ?_⟩) (by assumption) ?_
            rotate_left 1
            · intro w hSw
              (try dsimp only at hSw)
              go_simp
              (try with_reducible rfl)
            try simp only [List.getElem_toArray, List.getElem_cons_zero, List.getElem_cons_succ, Act.put, List.setIfInBounds_toArray, List.set_cons_zero, List.set_cons_succ]
            refine wpAnyH_take (i := 7) (oi := _) (v := ?_) rfl (by kernel_rfl) (by kernel_rfl) (by kernel_rfl) (fun _ _ _ h => h) (Or.inl ⟨by rfl, ?_⟩) (by assumption) ?_
            rotate_left 1
            · intro w hSw
              (try dsimp only at hSw)
              go_simp
              (try with_reducible rfl)
            try simp only [List.getElem_toArray, List.getElem_cons_zero, List.getElem_cons_succ, Act.put, List.setIfInBounds_toArray, List.set_cons_zero, List.set_cons_succ]
            refine wpAnyH_ready (rs := [12]) (by kernel_rfl) (by simp) ?_
            refine AllReadyH.cons (o := _) rfl (fun K hK => ?_) AllReadyH.nil
            go_simp
            refine (HSAY.out _ _ _ HX.out HN.out.1 HN.out.2).mono ?_
            rintro e w10 ⟨rfl, h10, s7⟩
            have HS10 := Lib.hid h10
            clear h10
            (try go_wp2_with (fail))
            refine hK.out _ _ s7 (fun hHeld => ?_)
            clear hK K
            try simp only [List.getElem_toArray, List.getElem_cons_zero, List.getElem_cons_succ, Act.put, List.setIfInBounds_toArray, List.set_cons_zero, List.set_cons_succ]
            refine wpAnyH_done (by kernel_rfl) ?_ _
            refine NoPanic.normal ?_
            go_wp2_with (fail)
            go_roundw
            case rel => exact ⟨i + 1, by omega, by go_num, Lib.hid (HEND.out _ true (by simp [HI.out]) HS10.out)⟩
            case measure => simp [intOf]; omega
          · have g : ¬ (i : Int) < 100 := by omega
            have HI := Lib.hid h100
            clear h100
            have HX := Lib.hid (drewP W1)
            refine wp_region_noPanic ?_
            refine wp_region_held_drew (S := fun W => W.cell? ⟨bf, 0, none⟩ = some (.func (.func 17) #[] #[.pointer (some ⟨bo, 0, none⟩), .pointer (some ⟨bb, 0, none⟩)]) ∧ W.cell? ⟨wr.heap.size, 0, none⟩ = some (.bool false) ∧ W.cell? ⟨wr.heap.size, 1, none⟩ = some (.string ⟨pt.toArray⟩)) (by kernel_rfl) (HCL.out _ HX.out) (fun hHeld => ?_)
            refine wpAnyH_take (i := 0) (oi := _) (v := ?_) rfl (by kernel_rfl) (by kernel_rfl) (by kernel_rfl) (fun _ _ _ h => h) (Or.inl ⟨by rfl, ?_⟩) (by assumption) ?_
            rotate_left 1
            · intro w hSw
              (try dsimp only at hSw)
              go_simp
              (try with_reducible rfl)
            try simp only [List.getElem_toArray, List.getElem_cons_zero, List.getElem_cons_succ, Act.put, List.setIfInBounds_toArray, List.set_cons_zero, List.set_cons_succ]
            refine wpAnyH_take (i := 1) (oi := _) (v := ?_) rfl (by kernel_rfl) (by kernel_rfl) (by kernel_rfl) (fun _ _ _ h => h) (Or.inl ⟨by rfl, ?_⟩) (by assumption) ?_
            rotate_left 1
            · intro w hSw
              (try dsimp only at hSw)
              go_simp
              (try with_reducible rfl)
            try simp only [List.getElem_toArray, List.getElem_cons_zero, List.getElem_cons_succ, Act.put, List.setIfInBounds_toArray, List.set_cons_zero, List.set_cons_succ]
            refine wpAnyH_take (i := 2) (oi := _) (v := ?_) rfl (by kernel_rfl) (by kernel_rfl) (by kernel_rfl) (fun _ _ _ h => h) (Or.inl ⟨by rfl, ?_⟩) (by assumption) ?_
            rotate_left 1
            · intro w hSw
              (try dsimp only at hSw)
              go_simp
              (try with_reducible rfl)
            try simp only [List.getElem_toArray, List.getElem_cons_zero, List.getElem_cons_succ, Act.put, List.setIfInBounds_toArray, List.set_cons_zero, List.set_cons_succ]
            refine wpAnyH_take (i := 8) (oi := _) (v := ?_) rfl (by kernel_rfl) (by kernel_rfl) (by kernel_rfl) (fun _ _ _ h => h) (Or.inl ⟨by rfl, ?_⟩) (by assumption) ?_
            rotate_left 1
            · intro w hSw
              (try dsimp only at hSw)
              go_simp
              (try with_reducible rfl)
            try simp only [List.getElem_toArray, List.getElem_cons_zero, List.getElem_cons_succ, Act.put, List.setIfInBounds_toArray, List.set_cons_zero, List.set_cons_succ]
            refine wpAnyH_take (i := 9) (oi := _) (v := ?_) rfl (by kernel_rfl) (by kernel_rfl) (by kernel_rfl) (fun _ _ _ h => h) (Or.inl ⟨by rfl, ?_⟩) (by assumption) ?_
            rotate_left 1
            · intro w hSw
              (try dsimp only at hSw)
              go_simp
              (try with_reducible rfl)
            try simp only [List.getElem_toArray, List.getElem_cons_zero, List.getElem_cons_succ, Act.put, List.setIfInBounds_toArray, List.set_cons_zero, List.set_cons_succ]
            refine wpAnyH_take (i := 10) (oi := _) (v := ?_) rfl (by kernel_rfl) (by kernel_rfl) (by kernel_rfl) (fun _ _ _ h => h) (Or.inl ⟨by rfl, ?_⟩) (by assumption) ?_
            rotate_left 1
            · intro w hSw
              (try dsimp only at hSw)
              go_simp
              (try with_reducible rfl)
            try simp only [List.getElem_toArray, List.getElem_cons_zero, List.getElem_cons_succ, Act.put, List.setIfInBounds_toArray, List.set_cons_zero, List.set_cons_succ]
            refine wpAnyH_ready (rs := [3, 11]) (by kernel_rfl) (by simp) ?_
            refine AllReadyH.cons (o := _) rfl (fun K hK => ?_) ?_
            · go_simp
              refine (HPA.out _ HX.out).mono ?_
              rintro e w9 ⟨rfl, hw9⟩
              have HY := Lib.hid (HX.out.trans (hw9.mono HX.out.size))
              have HX := Lib.hid HY.out
              clear HY hw9
              (try go_wp2_with (fail))
              refine hK.out _ _ (HCL.out _ HX.out) (fun hHeld => ?_)
              clear hK K
              try simp only [List.getElem_toArray, List.getElem_cons_zero, List.getElem_cons_succ, Act.put, List.setIfInBounds_toArray, List.set_cons_zero, List.set_cons_succ]
              refine wpAnyH_take (i := 4) (oi := _) (v := ?_) rfl (by kernel_rfl) (by kernel_rfl) (by kernel_rfl) (fun _ _ _ h => h) (Or.inl ⟨by rfl, ?_⟩) (by assumption) ?_
              rotate_left 1
              · intro w hSw
                (try dsimp only at hSw)
                go_simp
                (try with_reducible rfl)
              try simp only [List.getElem_toArray, List.getElem_cons_zero, List.getElem_cons_succ, Act.put, List.setIfInBounds_toArray, List.set_cons_zero, List.set_cons_succ]
              refine wpAnyH_take (i := 5) (oi := _) (v := ?_) rfl (by kernel_rfl) (by kernel_rfl) (by kernel_rfl) (fun _ _ _ h => h) (Or.inl ⟨by rfl, ?_⟩) (by assumption) ?_
              rotate_left 1
              · intro w hSw
                (try dsimp only at hSw)
                go_simp
                (try with_reducible rfl)
              try simp only [List.getElem_toArray, List.getElem_cons_zero, List.getElem_cons_succ, Act.put, List.setIfInBounds_toArray, List.set_cons_zero, List.set_cons_succ]
              refine wpAnyH_take (i := 6) (oi := _) (v := ?_) rfl (by kernel_rfl) (by kernel_rfl) (by kernel_rfl) (fun _ _ _ h => h) (Or.inl ⟨by rfl, ?_⟩) (by assumption) ?_
              rotate_left 1
              · intro w hSw
                (try dsimp only at hSw)
                go_simp
                (try with_reducible rfl)
              try simp only [List.getElem_toArray, List.getElem_cons_zero, List.getElem_cons_succ, Act.put, List.setIfInBounds_toArray, List.set_cons_zero, List.set_cons_succ]
              refine wpAnyH_take (i := 7) (oi := _) (v := ?_) rfl (by kernel_rfl) (by kernel_rfl) (by kernel_rfl) (fun _ _ _ h => h) (Or.inl ⟨by rfl, ?_⟩) (by assumption) ?_
              rotate_left 1
              · intro w hSw
                (try dsimp only at hSw)
                go_simp
                (try with_reducible rfl)
              try simp only [List.getElem_toArray, List.getElem_cons_zero, List.getElem_cons_succ, Act.put, List.setIfInBounds_toArray, List.set_cons_zero, List.set_cons_succ]
              refine wpAnyH_ready (rs := [11]) (by kernel_rfl) (by simp) ?_
              refine AllReadyH.cons (o := _) rfl (fun K hK => ?_) AllReadyH.nil
              go_simp
              have HN := Lib.hid (And.intro (heap_alloc_new (w9) (.cells #[.string ⟨no.toArray⟩, .string ⟨pt.toArray⟩] 9)) (HGO.out _ HX.out))
              have HX := Lib.hid (HX.out.alloc HX.out.size (.cells #[.string ⟨no.toArray⟩, .string ⟨pt.toArray⟩] 9))
              refine hK.out _ _ (HCL.out _ HX.out) (fun hHeld => ?_)
              clear hK K
              try simp only [List.getElem_toArray, List.getElem_cons_zero, List.getElem_cons_succ, Act.put, List.setIfInBounds_toArray, List.set_cons_zero, List.set_cons_succ]
              refine wpAnyH_ready (rs := [12]) (by kernel_rfl) (by simp) ?_
              refine AllReadyH.cons (o := _) rfl (fun K hK => ?_) AllReadyH.nil
              go_simp
              refine (HSAY.out _ _ _ HX.out HN.out.1 HN.out.2).mono ?_
              rintro e w10 ⟨rfl, h10, s7⟩
              have HS10 := Lib.hid h10
              clear h10
              (try go_wp2_with (fail))
              refine hK.out _ _ s7 (fun hHeld => ?_)
              clear hK K
              try simp only [List.getElem_toArray, List.getElem_cons_zero, List.getElem_cons_succ, Act.put, List.setIfInBounds_toArray, List.set_cons_zero, List.set_cons_succ]
              refine wpAnyH_done (by kernel_rfl) ?_ _
              refine NoPanic.normal ?_
              go_wp2_with (fail)
              go_roundw
              case rel => exact ⟨i + 1, by omega, by go_num, Lib.hid (HEND.out _ _ (by rw [Bool.true_and, Bool.eq_iff_iff, decide_eq_true_eq, decide_eq_true_eq]; omega) HS10.out)⟩
              case measure => simp [intOf]; omega
            refine AllReadyH.cons (o := _) rfl (fun K hK => ?_) AllReadyH.nil
            go_simp
            have HN := Lib.hid (And.intro (heap_alloc_new (W1.drew) (.cells #[.string ⟨no.toArray⟩, .string ⟨pt.toArray⟩] 9)) (HGO.out _ HX.out))
            have HX := Lib.hid (HX.out.alloc HX.out.size (.cells #[.string ⟨no.toArray⟩, .string ⟨pt.toArray⟩] 9))
            refine hK.out _ _ (HCL.out _ HX.out) (fun hHeld => ?_)
            clear hK K
            try simp only [List.getElem_toArray, List.getElem_cons_zero, List.getElem_cons_succ, Act.put, List.setIfInBounds_toArray, List.set_cons_zero, List.set_cons_succ]
            refine wpAnyH_ready (rs := [3]) (by kernel_rfl) (by simp) ?_
            refine AllReadyH.cons (o := _) rfl (fun K hK => ?_) AllReadyH.nil
            go_simp
            refine (HPA.out _ HX.out).mono ?_
            rintro e w9 ⟨rfl, hw9⟩
            have HY := Lib.hid (HX.out.trans (hw9.mono HX.out.size))
            have HN := Lib.hid (And.intro ((hw9.block _ (Array.getElem?_eq_some_iff.1 HN.out.1).1).trans HN.out.1) HN.out.2)
            have HX := Lib.hid HY.out
            clear HY hw9
            (try go_wp2_with (fail))
            refine hK.out _ _ (HCL.out _ HX.out) (fun hHeld => ?_)
            clear hK K
            try simp only [List.getElem_toArray, List.getElem_cons_zero, List.getElem_cons_succ, Act.put, List.setIfInBounds_toArray, List.set_cons_zero, List.set_cons_succ]
            refine wpAnyH_take (i := 4) (oi := _) (v := ?_) rfl (by kernel_rfl) (by kernel_rfl) (by kernel_rfl) (fun _ _ _ h => h) (Or.inl ⟨by rfl, ?_⟩) (by assumption) ?_
            rotate_left 1
            · intro w hSw
              (try dsimp only at hSw)
              go_simp
              (try with_reducible rfl)
            try simp only [List.getElem_toArray, List.getElem_cons_zero, List.getElem_cons_succ, Act.put, List.setIfInBounds_toArray, List.set_cons_zero, List.set_cons_succ]
            refine wpAnyH_take (i := 5) (oi := _) (v := ?_) rfl (by kernel_rfl) (by kernel_rfl) (by kernel_rfl) (fun _ _ _ h => h) (Or.inl ⟨by rfl, ?_⟩) (by assumption) ?_
            rotate_left 1
            · intro w hSw
              (try dsimp only at hSw)
              go_simp
              (try with_reducible rfl)
            try simp only [List.getElem_toArray, List.getElem_cons_zero, List.getElem_cons_succ, Act.put, List.setIfInBounds_toArray, List.set_cons_zero, List.set_cons_succ]
            refine wpAnyH_take (i := 6) (oi := _) (v := ?_) rfl (by kernel_rfl) (by kernel_rfl) (by kernel_rfl) (fun _ _ _ h => h) (Or.inl ⟨by rfl, ?_⟩) (by assumption) ?_
            rotate_left 1
            · intro w hSw
              (try dsimp only at hSw)
              go_simp
              (try with_reducible rfl)
            try simp only [List.getElem_toArray, List.getElem_cons_zero, List.getElem_cons_succ, Act.put, List.setIfInBounds_toArray, List.set_cons_zero, List.set_cons_succ]
            refine wpAnyH_take (i := 7) (oi := _) (v := ?_) rfl (by kernel_rfl) (by kernel_rfl) (by kernel_rfl) (fun _ _ _ h => h) (Or.inl ⟨by rfl, ?_⟩) (by assumption) ?_
            rotate_left 1
            · intro w hSw
              (try dsimp only at hSw)
              go_simp
              (try with_reducible rfl)
            try simp only [List.getElem_toArray, List.getElem_cons_zero, List.getElem_cons_succ, Act.put, List.setIfInBounds_toArray, List.set_cons_zero, List.set_cons_succ]
            refine wpAnyH_ready (rs := [12]) (by kernel_rfl) (by simp) ?_
            refine AllReadyH.cons (o := _) rfl (fun K hK => ?_) AllReadyH.nil
            go_simp
            refine (HSAY.out _ _ _ HX.out HN.out.1 HN.out.2).mono ?_
            rintro e w10 ⟨rfl, h10, s7⟩
            have HS10 := Lib.hid h10
            clear h10
            (try go_wp2_with (fail))
            refine hK.out _ _ s7 (fun hHeld => ?_)
            clear hK K
            try simp only [List.getElem_toArray, List.getElem_cons_zero, List.getElem_cons_succ, Act.put, List.setIfInBounds_toArray, List.set_cons_zero, List.set_cons_succ]
            refine wpAnyH_done (by kernel_rfl) ?_ _
            refine NoPanic.normal ?_
            go_wp2_with (fail)
            go_roundw
            case rel => exact ⟨i + 1, by omega, by go_num, Lib.hid (HEND.out _ _ (by rw [Bool.true_and, Bool.eq_iff_iff, decide_eq_true_eq, decide_eq_true_eq]; omega) HS10.out)⟩
            case measure => simp [intOf]; omega
      | true =>
        obtain rfl : yes = wd := HWD.out
        clear HWD
        go_upto_region 6 with (fail)
        rw [HW1.out]
        cases pl with
        | false =>
          have HX := Lib.hid (drewP W1)
          refine wp_region_noPanic ?_
          refine wp_region_held_drew (S := fun W => W.cell? ⟨bf, 0, none⟩ = some (.func (.func 17) #[] #[.pointer (some ⟨bo, 0, none⟩), .pointer (some ⟨bb, 0, none⟩)]) ∧ W.cell? ⟨wr.heap.size, 0, none⟩ = some (.bool true) ∧ W.cell? ⟨wr.heap.size, 1, none⟩ = some (.string ⟨pt.toArray⟩)) (by kernel_rfl) (HCL.out _ HX.out) (fun hHeld => ?_)
          refine wpAnyH_take (i := 0) (oi := _) (v := ?_) rfl (by kernel_rfl) (by kernel_rfl) (by kernel_rfl) (fun _ _ _ h => h) (Or.inl ⟨by rfl, ?_⟩) (by assumption) ?_
          rotate_left 1
          · intro w hSw
            (try dsimp only at hSw)
            go_simp
            (try with_reducible rfl)
          try simp only [List.getElem_toArray, List.getElem_cons_zero, List.getElem_cons_succ, Act.put, List.setIfInBounds_toArray, List.set_cons_zero, List.set_cons_succ]
          refine wpAnyH_take (i := 1) (oi := _) (v := ?_) rfl (by kernel_rfl) (by kernel_rfl) (by kernel_rfl) (fun _ _ _ h => h) (Or.inl ⟨by rfl, ?_⟩) (by assumption) ?_
          rotate_left 1
          · intro w hSw
            (try dsimp only at hSw)
            go_simp
            (try with_reducible rfl)
          try simp only [List.getElem_toArray, List.getElem_cons_zero, List.getElem_cons_succ, Act.put, List.setIfInBounds_toArray, List.set_cons_zero, List.set_cons_succ]
          refine wpAnyH_take (i := 2) (oi := _) (v := ?_) rfl (by kernel_rfl) (by kernel_rfl) (by kernel_rfl) (fun _ _ _ h => h) (Or.inl ⟨by rfl, ?_⟩) (by assumption) ?_
          rotate_left 1
          · intro w hSw
            (try dsimp only at hSw)
            go_simp
            (try with_reducible rfl)
          try simp only [List.getElem_toArray, List.getElem_cons_zero, List.getElem_cons_succ, Act.put, List.setIfInBounds_toArray, List.set_cons_zero, List.set_cons_succ]
          refine wpAnyH_take (i := 8) (oi := _) (v := ?_) rfl (by kernel_rfl) (by kernel_rfl) (by kernel_rfl) (fun _ _ _ h => h) (Or.inl ⟨by rfl, ?_⟩) (by assumption) ?_
          rotate_left 1
          · intro w hSw
            (try dsimp only at hSw)
            go_simp
            (try with_reducible rfl)
          try simp only [List.getElem_toArray, List.getElem_cons_zero, List.getElem_cons_succ, Act.put, List.setIfInBounds_toArray, List.set_cons_zero, List.set_cons_succ]
          refine wpAnyH_take (i := 9) (oi := _) (v := ?_) rfl (by kernel_rfl) (by kernel_rfl) (by kernel_rfl) (fun _ _ _ h => h) (Or.inl ⟨by rfl, ?_⟩) (by assumption) ?_
          rotate_left 1
          · intro w hSw
            (try dsimp only at hSw)
            go_simp
            (try with_reducible rfl)
          try simp only [List.getElem_toArray, List.getElem_cons_zero, List.getElem_cons_succ, Act.put, List.setIfInBounds_toArray, List.set_cons_zero, List.set_cons_succ]
          refine wpAnyH_take (i := 10) (oi := _) (v := ?_) rfl (by kernel_rfl) (by kernel_rfl) (by kernel_rfl) (fun _ _ _ h => h) (Or.inl ⟨by rfl, ?_⟩) (by assumption) ?_
          rotate_left 1
          · intro w hSw
            (try dsimp only at hSw)
            go_simp
            (try with_reducible rfl)
          try simp only [List.getElem_toArray, List.getElem_cons_zero, List.getElem_cons_succ, Act.put, List.setIfInBounds_toArray, List.set_cons_zero, List.set_cons_succ]
          refine wpAnyH_ready (rs := [3, 11]) (by kernel_rfl) (by simp) ?_
          refine AllReadyH.cons (o := _) rfl (fun K hK => ?_) ?_
          · go_simp
            refine (HPA.out _ HX.out).mono ?_
            rintro e w9 ⟨rfl, hw9⟩
            have HY := Lib.hid (HX.out.trans (hw9.mono HX.out.size))
            have HX := Lib.hid HY.out
            clear HY hw9
            (try go_wp2_with (fail))
            refine hK.out _ _ (HCL.out _ HX.out) (fun hHeld => ?_)
            clear hK K
            try simp only [List.getElem_toArray, List.getElem_cons_zero, List.getElem_cons_succ, Act.put, List.setIfInBounds_toArray, List.set_cons_zero, List.set_cons_succ]
            refine wpAnyH_take (i := 4) (oi := _) (v := ?_) rfl (by kernel_rfl) (by kernel_rfl) (by kernel_rfl) (fun _ _ _ h => h) (Or.inl ⟨by rfl, ?_⟩) (by assumption) ?_
            rotate_left 1
            · intro w hSw
              (try dsimp only at hSw)
              go_simp
              (try with_reducible rfl)
            try simp only [List.getElem_toArray, List.getElem_cons_zero, List.getElem_cons_succ, Act.put, List.setIfInBounds_toArray, List.set_cons_zero, List.set_cons_succ]
            refine wpAnyH_take (i := 5) (oi := _) (v := undef) rfl (by kernel_rfl) (by kernel_rfl) (by kernel_rfl) (fun _ _ _ h => h) (Or.inr ⟨by rfl, rfl⟩) (by assumption) ?_
            try simp only [List.getElem_toArray, List.getElem_cons_zero, List.getElem_cons_succ, Act.put, List.setIfInBounds_toArray, List.set_cons_zero, List.set_cons_succ]
            refine wpAnyH_take (i := 6) (oi := _) (v := undef) rfl (by kernel_rfl) (by kernel_rfl) (by kernel_rfl) (fun _ _ _ h => h) (Or.inr ⟨by rfl, rfl⟩) (by assumption) ?_
            try simp only [List.getElem_toArray, List.getElem_cons_zero, List.getElem_cons_succ, Act.put, List.setIfInBounds_toArray, List.set_cons_zero, List.set_cons_succ]
            refine wpAnyH_take (i := 7) (oi := _) (v := ?_) rfl (by kernel_rfl) (by kernel_rfl) (by kernel_rfl) (fun _ _ _ h => h) (Or.inl ⟨by rfl, ?_⟩) (by assumption) ?_
            rotate_left 1
            · intro w hSw
              (try dsimp only at hSw)
              go_simp
              (try with_reducible rfl)
            try simp only [List.getElem_toArray, List.getElem_cons_zero, List.getElem_cons_succ, Act.put, List.setIfInBounds_toArray, List.set_cons_zero, List.set_cons_succ]
            refine wpAnyH_ready (rs := [11]) (by kernel_rfl) (by simp) ?_
            refine AllReadyH.cons (o := _) rfl (fun K hK => ?_) AllReadyH.nil
            go_simp
            have HN := Lib.hid (And.intro (heap_alloc_new (w9) (.cells #[.string ⟨yes.toArray⟩, .string ⟨pt.toArray⟩] 9)) (HGO.out _ HX.out))
            have HX := Lib.hid (HX.out.alloc HX.out.size (.cells #[.string ⟨yes.toArray⟩, .string ⟨pt.toArray⟩] 9))
            refine hK.out _ _ (HCL.out _ HX.out) (fun hHeld => ?_)
            clear hK K
            try simp only [List.getElem_toArray, List.getElem_cons_zero, List.getElem_cons_succ, Act.put, List.setIfInBounds_toArray, List.set_cons_zero, List.set_cons_succ]
            refine wpAnyH_ready (rs := [12]) (by kernel_rfl) (by simp) ?_
            refine AllReadyH.cons (o := _) rfl (fun K hK => ?_) AllReadyH.nil
            go_simp
            refine (HSAY.out _ _ _ HX.out HN.out.1 HN.out.2).mono ?_
            rintro e w10 ⟨rfl, h10, s7⟩
            have HS10 := Lib.hid h10
            clear h10
            (try go_wp2_with (fail))
            refine hK.out _ _ s7 (fun hHeld => ?_)
            clear hK K
            try simp only [List.getElem_toArray, List.getElem_cons_zero, List.getElem_cons_succ, Act.put, List.setIfInBounds_toArray, List.set_cons_zero, List.set_cons_succ]
            refine wpAnyH_done (by kernel_rfl) ?_ _
            refine NoPanic.normal ?_
            go_wp2_with (fail)
            go_roundw
            case rel => exact ⟨i + 1, by omega, by go_num, Lib.hid (HEND.out _ false (by simp) HS10.out)⟩
            case measure => simp [intOf]; omega
          refine AllReadyH.cons (o := _) rfl (fun K hK => ?_) AllReadyH.nil
          go_simp
          have HN := Lib.hid (And.intro (heap_alloc_new (W1.drew) (.cells #[.string ⟨yes.toArray⟩, .string ⟨pt.toArray⟩] 9)) (HGO.out _ HX.out))
          have HX := Lib.hid (HX.out.alloc HX.out.size (.cells #[.string ⟨yes.toArray⟩, .string ⟨pt.toArray⟩] 9))
          refine hK.out _ _ (HCL.out _ HX.out) (fun hHeld => ?_)
          clear hK K
          try simp only [List.getElem_toArray, List.getElem_cons_zero, List.getElem_cons_succ, Act.put, List.setIfInBounds_toArray, List.set_cons_zero, List.set_cons_succ]
          refine wpAnyH_ready (rs := [3]) (by kernel_rfl) (by simp) ?_
          refine AllReadyH.cons (o := _) rfl (fun K hK => ?_) AllReadyH.nil
          go_simp
          refine (HPA.out _ HX.out).mono ?_
          rintro e w9 ⟨rfl, hw9⟩
          have HY := Lib.hid (HX.out.trans (hw9.mono HX.out.size))
          have HN := Lib.hid (And.intro ((hw9.block _ (Array.getElem?_eq_some_iff.1 HN.out.1).1).trans HN.out.1) HN.out.2)
          have HX := Lib.hid HY.out
          clear HY hw9
          (try go_wp2_with (fail))
          refine hK.out _ _ (HCL.out _ HX.out) (fun hHeld => ?_)
          clear hK K
          try simp only [List.getElem_toArray, List.getElem_cons_zero, List.getElem_cons_succ, Act.put, List.setIfInBounds_toArray, List.set_cons_zero, List.set_cons_succ]
          refine wpAnyH_take (i := 4) (oi := _) (v := ?_) rfl (by kernel_rfl) (by kernel_rfl) (by kernel_rfl) (fun _ _ _ h => h) (Or.inl ⟨by rfl, ?_⟩) (by assumption) ?_
          rotate_left 1
          · intro w hSw
            (try dsimp only at hSw)
            go_simp
            (try with_reducible rfl)
          try simp only [List.getElem_toArray, List.getElem_cons_zero, List.getElem_cons_succ, Act.put, List.setIfInBounds_toArray, List.set_cons_zero, List.set_cons_succ]
          refine wpAnyH_take (i := 5) (oi := _) (v := undef) rfl (by kernel_rfl) (by kernel_rfl) (by kernel_rfl) (fun _ _ _ h => h) (Or.inr ⟨by rfl, rfl⟩) (by assumption) ?_
          try simp only [List.getElem_toArray, List.getElem_cons_zero, List.getElem_cons_succ, Act.put, List.setIfInBounds_toArray, List.set_cons_zero, List.set_cons_succ]
          refine wpAnyH_take (i := 6) (oi := _) (v := undef) rfl (by kernel_rfl) (by kernel_rfl) (by kernel_rfl) (fun _ _ _ h => h) (Or.inr ⟨by rfl, rfl⟩) (by assumption) ?_
          try simp only [List.getElem_toArray, List.getElem_cons_zero, List.getElem_cons_succ, Act.put, List.setIfInBounds_toArray, List.set_cons_zero, List.set_cons_succ]
          refine wpAnyH_take (i := 7) (oi := _) (v := ?_) rfl (by kernel_rfl) (by kernel_rfl) (by kernel_rfl) (fun _ _ _ h => h) (Or.inl ⟨by rfl, ?_⟩) (by assumption) ?_
          rotate_left 1
          · intro w hSw
            (try dsimp only at hSw)
            go_simp
            (try with_reducible rfl)
          try simp only [List.getElem_toArray, List.getElem_cons_zero, List.getElem_cons_succ, Act.put, List.setIfInBounds_toArray, List.set_cons_zero, List.set_cons_succ]
          refine wpAnyH_ready (rs := [12]) (by kernel_rfl) (by simp) ?_
          refine AllReadyH.cons (o := _) rfl (fun K hK => ?_) AllReadyH.nil
          go_simp
          refine (HSAY.out _ _ _ HX.out HN.out.1 HN.out.2).mono ?_
          rintro e w10 ⟨rfl, h10, s7⟩
          have HS10 := Lib.hid h10
          clear h10
          (try go_wp2_with (fail))
          refine hK.out _ _ s7 (fun hHeld => ?_)
          clear hK K
          try simp only [List.getElem_toArray, List.getElem_cons_zero, List.getElem_cons_succ, Act.put, List.setIfInBounds_toArray, List.set_cons_zero, List.set_cons_succ]
          refine wpAnyH_done (by kernel_rfl) ?_ _
          refine NoPanic.normal ?_
          go_wp2_with (fail)
          go_roundw
          case rel => exact ⟨i + 1, by omega, by go_num, Lib.hid (HEND.out _ false (by simp) HS10.out)⟩
          case measure => simp [intOf]; omega
        | true =>
          by_cases h100 : i < 100
          · have g : (i : Int) < 100 := by omega
            have HI := Lib.hid h100
            clear h100
            have HX := Lib.hid (drewP W1)
            refine wp_region_noPanic ?_
            refine wp_region_held_drew (S := fun W => W.cell? ⟨bf, 0, none⟩ = some (.func (.func 17) #[] #[.pointer (some ⟨bo, 0, none⟩), .pointer (some ⟨bb, 0, none⟩)]) ∧ W.cell? ⟨wr.heap.size, 0, none⟩ = some (.bool true) ∧ W.cell? ⟨wr.heap.size, 1, none⟩ = some (.string ⟨pt.toArray⟩)) (by kernel_rfl) (HCL.out _ HX.out) (fun hHeld => ?_)
            refine wpAnyH_take (i := 0) (oi := _) (v := ?_) rfl (by kernel_rfl) (by kernel_rfl) (by kernel_rfl) (fun _ _ _ h => h) (Or.inl ⟨by rfl, ?_⟩) (by assumption) ?_
            rotate_left 1
            · intro w hSw
              (try dsimp only at hSw)
              go_simp
              (try with_reducible rfl)
            try simp only [List.getElem_toArray, List.getElem_cons_zero, List.getElem_cons_succ, Act.put, List.setIfInBounds_toArray, List.set_cons_zero, List.set_cons_succ]
            refine wpAnyH_take (i := 1) (oi := _) (v := ?_) rfl (by kernel_rfl) (by kernel_rfl) (by kernel_rfl) (fun _ _ _ h => h) (Or.inl ⟨by rfl, ?_⟩) (by assumption) ?_
            rotate_left 1
            · intro w hSw
              (try dsimp only at hSw)
              go_simp
              (try with_reducible rfl)
            try simp only [List.getElem_toArray, List.getElem_cons_zero, List.getElem_cons_succ, Act.put, List.setIfInBounds_toArray, List.set_cons_zero, List.set_cons_succ]
            refine wpAnyH_take (i := 2) (oi := _) (v := ?_) rfl (by kernel_rfl) (by kernel_rfl) (by kernel_rfl) (fun _ _ _ h => h) (Or.inl ⟨by rfl, ?_⟩) (by assumption) ?_
            rotate_left 1
            · intro w hSw
              (try dsimp only at hSw)
              go_simp
              (try with_reducible rfl)
            try simp only [List.getElem_toArray, List.getElem_cons_zero, List.getElem_cons_succ, Act.put, List.setIfInBounds_toArray, List.set_cons_zero, List.set_cons_succ]
            refine wpAnyH_take (i := 8) (oi := _) (v := ?_) rfl (by kernel_rfl) (by kernel_rfl) (by kernel_rfl) (fun _ _ _ h => h) (Or.inl ⟨by rfl, ?_⟩) (by assumption) ?_
            rotate_left 1
            · intro w hSw
              (try dsimp only at hSw)
              go_simp
              (try with_reducible rfl)
            try simp only [List.getElem_toArray, List.getElem_cons_zero, List.getElem_cons_succ, Act.put, List.setIfInBounds_toArray, List.set_cons_zero, List.set_cons_succ]
            refine wpAnyH_take (i := 9) (oi := _) (v := ?_) rfl (by kernel_rfl) (by kernel_rfl) (by kernel_rfl) (fun _ _ _ h => h) (Or.inl ⟨by rfl, ?_⟩) (by assumption) ?_
            rotate_left 1
            · intro w hSw
              (try dsimp only at hSw)
              go_simp
              (try with_reducible rfl)
            try simp only [List.getElem_toArray, List.getElem_cons_zero, List.getElem_cons_succ, Act.put, List.setIfInBounds_toArray, List.set_cons_zero, List.set_cons_succ]
            refine wpAnyH_take (i := 10) (oi := _) (v := ?_) rfl (by kernel_rfl) (by kernel_rfl) (by kernel_rfl) (fun _ _ _ h => h) (Or.inl ⟨by rfl, ?_⟩) (by assumption) ?_
            rotate_left 1
            · intro w hSw
              (try dsimp only at hSw)
              go_simp
              (try with_reducible rfl)
            try simp only [List.getElem_toArray, List.getElem_cons_zero, List.getElem_cons_succ, Act.put, List.setIfInBounds_toArray, List.set_cons_zero, List.set_cons_succ]
            refine wpAnyH_ready (rs := [3, 11]) (by kernel_rfl) (by simp) ?_
            refine AllReadyH.cons (o := _) rfl (fun K hK => ?_) ?_
            · go_simp
              refine (HPA.out _ HX.out).mono ?_
              rintro e w9 ⟨rfl, hw9⟩
              have HY := Lib.hid (HX.out.trans (hw9.mono HX.out.size))
              have HX := Lib.hid HY.out
              clear HY hw9
              (try go_wp2_with (fail))
              refine hK.out _ _ (HCL.out _ HX.out) (fun hHeld => ?_)
              clear hK K
              try simp only [List.getElem_toArray, List.getElem_cons_zero, List.getElem_cons_succ, Act.put, List.setIfInBounds_toArray, List.set_cons_zero, List.set_cons_succ]
              refine wpAnyH_take (i := 4) (oi := _) (v := ?_) rfl (by kernel_rfl) (by kernel_rfl) (by kernel_rfl) (fun _ _ _ h => h) (Or.inl ⟨by rfl, ?_⟩) (by assumption) ?_
              rotate_left 1
              · intro w hSw
                (try dsimp only at hSw)
                go_simp
                (try with_reducible rfl)
              try simp only [List.getElem_toArray, List.getElem_cons_zero, List.getElem_cons_succ, Act.put, List.setIfInBounds_toArray, List.set_cons_zero, List.set_cons_succ]
              refine wpAnyH_take (i := 5) (oi := _) (v := ?_) rfl (by kernel_rfl) (by kernel_rfl) (by kernel_rfl) (fun _ _ _ h => h) (Or.inl ⟨by rfl, ?_⟩) (by assumption) ?_
              rotate_left 1
              · intro w hSw
                (try dsimp only at hSw)
                go_simp
                (try with_reducible rfl)
              try simp only [List.getElem_toArray, List.getElem_cons_zero, List.getElem_cons_succ, Act.put, List.setIfInBounds_toArray, List.set_cons_zero, List.set_cons_succ]
              refine wpAnyH_take (i := 6) (oi := _) (v := ?_) rfl (by kernel_rfl) (by kernel_rfl) (by kernel_rfl) (fun _ _ _ h => h) (Or.inl ⟨by rfl, ?_⟩) (by assumption) ?_
              rotate_left 1
              · intro w hSw
                (try dsimp only at hSw)
                go_simp
                (try with_reducible rfl)
              try simp only [List.getElem_toArray, List.getElem_cons_zero, List.getElem_cons_succ, Act.put, List.setIfInBounds_toArray, List.set_cons_zero, List.set_cons_succ]
              refine wpAnyH_take (i := 7) (oi := _) (v := ?_) rfl (by kernel_rfl) (by kernel_rfl) (by kernel_rfl) (fun _ _ _ h => h) (Or.inl ⟨by rfl, ?_⟩) (by assumption) ?_
              rotate_left 1
              · intro w hSw
                (try dsimp only at hSw)
                go_simp
                (try with_reducible rfl)
              try simp only [List.getElem_toArray, List.getElem_cons_zero, List.getElem_cons_succ, Act.put, List.setIfInBounds_toArray, List.set_cons_zero, List.set_cons_succ]
              refine wpAnyH_ready (rs := [11]) (by kernel_rfl) (by simp) ?_
              refine AllReadyH.cons (o := _) rfl (fun K hK => ?_) AllReadyH.nil
              go_simp
              have HN := Lib.hid (And.intro (heap_alloc_new (w9) (.cells #[.string ⟨yes.toArray⟩, .string ⟨pt.toArray⟩] 9)) (HGO.out _ HX.out))
              have HX := Lib.hid (HX.out.alloc HX.out.size (.cells #[.string ⟨yes.toArray⟩, .string ⟨pt.toArray⟩] 9))
              refine hK.out _ _ (HCL.out _ HX.out) (fun hHeld => ?_)
              clear hK K
              try simp only [List.getElem_toArray, List.getElem_cons_zero, List.getElem_cons_succ, Act.put, List.setIfInBounds_toArray, List.set_cons_zero, List.set_cons_succ]
              refine wpAnyH_ready (rs := [12]) (by kernel_rfl) (by simp) ?_
              refine AllReadyH.cons (o := _) rfl (fun K hK => ?_) AllReadyH.nil
              go_simp
              refine (HSAY.out _ _ _ HX.out HN.out.1 HN.out.2).mono ?_
              rintro e w10 ⟨rfl, h10, s7⟩
              have HS10 := Lib.hid h10
              clear h10
              (try go_wp2_with (fail))
              refine hK.out _ _ s7 (fun hHeld => ?_)
              clear hK K
              try simp only [List.getElem_toArray, List.getElem_cons_zero, List.getElem_cons_succ, Act.put, List.setIfInBounds_toArray, List.set_cons_zero, List.set_cons_succ]
              refine wpAnyH_done (by kernel_rfl) ?_ _
              refine NoPanic.normal ?_
              go_wp2_with (fail)
              go_roundw
              case rel => exact ⟨i + 1, by omega, by go_num, Lib.hid (HEND.out _ true (by simp [HI.out]) HS10.out)⟩
              case measure => simp [intOf]; omega
            refine AllReadyH.cons (o := _) rfl (fun K hK => ?_) AllReadyH.nil
            go_simp
            have HN := Lib.hid (And.intro (heap_alloc_new (W1.drew) (.cells #[.string ⟨yes.toArray⟩, .string ⟨pt.toArray⟩] 9)) (HGO.out _ HX.out))
            have HX := Lib.hid (HX.out.alloc HX.out.size (.cells #[.string ⟨yes.toArray⟩, .string ⟨pt.toArray⟩] 9))
            refine hK.out _ _ (HCL.out _ HX.out) (fun hHeld => ?_)
            clear hK K
            try simp only [List.getElem_toArray, List.getElem_cons_zero, List.getElem_cons_succ, Act.put, List.setIfInBounds_toArray, List.set_cons_zero, List.set_cons_succ]
            refine wpAnyH_ready (rs := [3]) (by kernel_rfl) (by simp) ?_
            refine AllReadyH.cons (o := _) rfl (fun K hK => ?_) AllReadyH.nil
            go_simp
            refine (HPA.out _ HX.out).mono ?_
            rintro e w9 ⟨rfl, hw9⟩
            have HY := Lib.hid (HX.out.trans (hw9.mono HX.out.size))
            have HN := Lib.hid (And.intro ((hw9.block _ (Array.getElem?_eq_some_iff.1 HN.out.1).1).trans HN.out.1) HN.out.2)
            have HX := Lib.hid HY.out
            clear HY hw9
            (try go_wp2_with (fail))
            refine hK.out _ _ (HCL.out _ HX.out) (fun hHeld => ?_)
            clear hK K
            try simp only [List.getElem_toArray, List.getElem_cons_zero, List.getElem_cons_succ, Act.put, List.setIfInBounds_toArray, List.set_cons_zero, List.set_cons_succ]
            refine wpAnyH_take (i := 4) (oi := _) (v := ?_) rfl (by kernel_rfl) (by kernel_rfl) (by kernel_rfl) (fun _ _ _ h => h) (Or.inl ⟨by rfl, ?_⟩) (by assumption) ?_
            rotate_left 1
            · intro w hSw
              (try dsimp only at hSw)
              go_simp
              (try with_reducible rfl)
            try simp only [List.getElem_toArray, List.getElem_cons_zero, List.getElem_cons_succ, Act.put, List.setIfInBounds_toArray, List.set_cons_zero, List.set_cons_succ]
            refine wpAnyH_take (i := 5) (oi := _) (v := ?_) rfl (by kernel_rfl) (by kernel_rfl) (by kernel_rfl) (fun _ _ _ h => h) (Or.inl ⟨by rfl, ?_⟩) (by assumption) ?_
            rotate_left 1
            · intro w hSw
              (try dsimp only at hSw)
              go_simp
              (try with_reducible rfl)
            try simp only [List.getElem_toArray, List.getElem_cons_zero, List.getElem_cons_succ, Act.put, List.setIfInBounds_toArray, List.set_cons_zero, List.set_cons_succ]
            refine wpAnyH_take (i := 6) (oi := _) (v := ?_) rfl (by kernel_rfl) (by kernel_rfl) (by kernel_rfl) (fun _ _ _ h => h) (Or.inl ⟨by rfl, ?_⟩) (by assumption) ?_
            rotate_left 1
            · intro w hSw
              (try dsimp only at hSw)
              go_simp
              (try with_reducible rfl)
            try simp only [List.getElem_toArray, List.getElem_cons_zero, List.getElem_cons_succ, Act.put, List.setIfInBounds_toArray, List.set_cons_zero, List.set_cons_succ]
            refine wpAnyH_take (i := 7) (oi := _) (v := ?_) rfl (by kernel_rfl) (by kernel_rfl) (by kernel_rfl) (fun _ _ _ h => h) (Or.inl ⟨by rfl, ?_⟩) (by assumption) ?_
            rotate_left 1
            · intro w hSw
              (try dsimp only at hSw)
              go_simp
              (try with_reducible rfl)
            try simp only [List.getElem_toArray, List.getElem_cons_zero, List.getElem_cons_succ, Act.put, List.setIfInBounds_toArray, List.set_cons_zero, List.set_cons_succ]
            refine wpAnyH_ready (rs := [12]) (by kernel_rfl) (by simp) ?_
            refine AllReadyH.cons (o := _) rfl (fun K hK => ?_) AllReadyH.nil
            go_simp
            refine (HSAY.out _ _ _ HX.out HN.out.1 HN.out.2).mono ?_
            rintro e w10 ⟨rfl, h10, s7⟩
            have HS10 := Lib.hid h10
            clear h10
            (try go_wp2_with (fail))
            refine hK.out _ _ s7 (fun hHeld => ?_)
            clear hK K
            try simp only [List.getElem_toArray, List.getElem_cons_zero, List.getElem_cons_succ, Act.put, List.setIfInBounds_toArray, List.set_cons_zero, List.set_cons_succ]
            refine wpAnyH_done (by kernel_rfl) ?_ _
            refine NoPanic.normal ?_
            go_wp2_with (fail)
            go_roundw
            case rel => exact ⟨i + 1, by omega, by go_num, Lib.hid (HEND.out _ true (by simp [HI.out]) HS10.out)⟩
            case measure => simp [intOf]; omega
          · have g : ¬ (i : Int) < 100 := by omega
            have HI := Lib.hid h100
            clear h100
            have HX := Lib.hid (drewP W1)
            refine wp_region_noPanic ?_
            refine wp_region_held_drew (S := fun W => W.cell? ⟨bf, 0, none⟩ = some (.func (.func 17) #[] #[.pointer (some ⟨bo, 0, none⟩), .pointer (some ⟨bb, 0, none⟩)]) ∧ W.cell? ⟨wr.heap.size, 0, none⟩ = some (.bool true) ∧ W.cell? ⟨wr.heap.size, 1, none⟩ = some (.string ⟨pt.toArray⟩)) (by kernel_rfl) (HCL.out _ HX.out) (fun hHeld => ?_)
            refine wpAnyH_take (i := 0) (oi := _) (v := ?_) rfl (by kernel_rfl) (by kernel_rfl) (by kernel_rfl) (fun _ _ _ h => h) (Or.inl ⟨by rfl, ?_⟩) (by assumption) ?_
            rotate_left 1
            · intro w hSw
              (try dsimp only at hSw)
              go_simp
              (try with_reducible rfl)
            try simp only [List.getElem_toArray, List.getElem_cons_zero, List.getElem_cons_succ, Act.put, List.setIfInBounds_toArray, List.set_cons_zero, List.set_cons_succ]
            refine wpAnyH_take (i := 1) (oi := _) (v := ?_) rfl (by kernel_rfl) (by kernel_rfl) (by kernel_rfl) (fun _ _ _ h => h) (Or.inl ⟨by rfl, ?_⟩) (by assumption) ?_
            rotate_left 1
            · intro w hSw
              (try dsimp only at hSw)
              go_simp
              (try with_reducible rfl)
            try simp only [List.getElem_toArray, List.getElem_cons_zero, List.getElem_cons_succ, Act.put, List.setIfInBounds_toArray, List.set_cons_zero, List.set_cons_succ]
            refine wpAnyH_take (i := 2) (oi := _) (v := ?_) rfl (by kernel_rfl) (by kernel_rfl) (by kernel_rfl) (fun _ _ _ h => h) (Or.inl ⟨by rfl, ?_⟩) (by assumption) ?_
            rotate_left 1
            · intro w hSw
              (try dsimp only at hSw)
              go_simp
              (try with_reducible rfl)
            try simp only [List.getElem_toArray, List.getElem_cons_zero, List.getElem_cons_succ, Act.put, List.setIfInBounds_toArray, List.set_cons_zero, List.set_cons_succ]
            refine wpAnyH_take (i := 8) (oi := _) (v := ?_) rfl (by kernel_rfl) (by kernel_rfl) (by kernel_rfl) (fun _ _ _ h => h) (Or.inl ⟨by rfl, ?_⟩) (by assumption) ?_
            rotate_left 1
            · intro w hSw
              (try dsimp only at hSw)
              go_simp
              (try with_reducible rfl)
            try simp only [List.getElem_toArray, List.getElem_cons_zero, List.getElem_cons_succ, Act.put, List.setIfInBounds_toArray, List.set_cons_zero, List.set_cons_succ]
            refine wpAnyH_take (i := 9) (oi := _) (v := ?_) rfl (by kernel_rfl) (by kernel_rfl) (by kernel_rfl) (fun _ _ _ h => h) (Or.inl ⟨by rfl, ?_⟩) (by assumption) ?_
            rotate_left 1
            · intro w hSw
              (try dsimp only at hSw)
              go_simp
              (try with_reducible rfl)
            try simp only [List.getElem_toArray, List.getElem_cons_zero, List.getElem_cons_succ, Act.put, List.setIfInBounds_toArray, List.set_cons_zero, List.set_cons_succ]
            refine wpAnyH_take (i := 10) (oi := _) (v := ?_) rfl (by kernel_rfl) (by kernel_rfl) (by kernel_rfl) (fun _ _ _ h => h) (Or.inl ⟨by rfl, ?_⟩) (by assumption) ?_
            rotate_left 1
            · intro w hSw
              (try dsimp only at hSw)
              go_simp
              (try with_reducible rfl)
            try simp only [List.getElem_toArray, List.getElem_cons_zero, List.getElem_cons_succ, Act.put, List.setIfInBounds_toArray, List.set_cons_zero, List.set_cons_succ]
            refine wpAnyH_ready (rs := [3, 11]) (by kernel_rfl) (by simp) ?_
            refine AllReadyH.cons (o := _) rfl (fun K hK => ?_) ?_
            · go_simp
              refine (HPA.out _ HX.out).mono ?_
              rintro e w9 ⟨rfl, hw9⟩
              have HY := Lib.hid (HX.out.trans (hw9.mono HX.out.size))
              have HX := Lib.hid HY.out
              clear HY hw9
              (try go_wp2_with (fail))
              refine hK.out _ _ (HCL.out _ HX.out) (fun hHeld => ?_)
              clear hK K
              try simp only [List.getElem_toArray, List.getElem_cons_zero, List.getElem_cons_succ, Act.put, List.setIfInBounds_toArray, List.set_cons_zero, List.set_cons_succ]
              refine wpAnyH_take (i := 4) (oi := _) (v := ?_) rfl (by kernel_rfl) (by kernel_rfl) (by kernel_rfl) (fun _ _ _ h => h) (Or.inl ⟨by rfl, ?_⟩) (by assumption) ?_
              rotate_left 1
              · intro w hSw
                (try dsimp only at hSw)
                go_simp
                (try with_reducible rfl)
              try simp only [List.getElem_toArray, List.getElem_cons_zero, List.getElem_cons_succ, Act.put, List.setIfInBounds_toArray, List.set_cons_zero, List.set_cons_succ]
              refine wpAnyH_take (i := 5) (oi := _) (v := ?_) rfl (by kernel_rfl) (by kernel_rfl) (by kernel_rfl) (fun _ _ _ h => h) (Or.inl ⟨by rfl, ?_⟩) (by assumption) ?_
              rotate_left 1
              · intro w hSw
                (try dsimp only at hSw)
                go_simp
                (try with_reducible rfl)
              try simp only [List.getElem_toArray, List.getElem_cons_zero, List.getElem_cons_succ, Act.put, List.setIfInBounds_toArray, List.set_cons_zero, List.set_cons_succ]
              refine wpAnyH_take (i := 6) (oi := _) (v := ?_) rfl (by kernel_rfl) (by kernel_rfl) (by kernel_rfl) (fun _ _ _ h => h) (Or.inl ⟨by rfl, ?_⟩) (by assumption) ?_
              rotate_left 1
              · intro w hSw
                (try dsimp only at hSw)
                go_simp
                (try with_reducible rfl)
              try simp only [List.getElem_toArray, List.getElem_cons_zero, List.getElem_cons_succ, Act.put, List.setIfInBounds_toArray, List.set_cons_zero, List.set_cons_succ]
              refine wpAnyH_take (i := 7) (oi := _) (v := ?_) rfl (by kernel_rfl) (by kernel_rfl) (by kernel_rfl) (fun _ _ _ h => h) (Or.inl ⟨by rfl, ?_⟩) (by assumption) ?_
              rotate_left 1
              · intro w hSw
                (try dsimp only at hSw)
                go_simp
                (try with_reducible rfl)
              try simp only [List.getElem_toArray, List.getElem_cons_zero, List.getElem_cons_succ, Act.put, List.setIfInBounds_toArray, List.set_cons_zero, List.set_cons_succ]
              refine wpAnyH_ready (rs := [11]) (by kernel_rfl) (by simp) ?_
              refine AllReadyH.cons (o := _) rfl (fun K hK => ?_) AllReadyH.nil
              go_simp
              have HN := Lib.hid (And.intro (heap_alloc_new (w9) (.cells #[.string ⟨yes.toArray⟩, .string ⟨pt.toArray⟩] 9)) (HGO.out _ HX.out))
              have HX := Lib.hid (HX.out.alloc HX.out.size (.cells #[.string ⟨yes.toArray⟩, .string ⟨pt.toArray⟩] 9))
              refine hK.out _ _ (HCL.out _ HX.out) (fun hHeld => ?_)
              clear hK K
              try simp only [List.getElem_toArray, List.getElem_cons_zero, List.getElem_cons_succ, Act.put, List.setIfInBounds_toArray, List.set_cons_zero, List.set_cons_succ]
              refine wpAnyH_ready (rs := [12]) (by kernel_rfl) (by simp) ?_
              refine AllReadyH.cons (o := _) rfl (fun K hK => ?_) AllReadyH.nil
              go_simp
              refine (HSAY.out _ _ _ HX.out HN.out.1 HN.out.2).mono ?_
              rintro e w10 ⟨rfl, h10, s7⟩
              have HS10 := Lib.hid h10
              clear h10
              (try go_wp2_with (fail))
              refine hK.out _ _ s7 (fun hHeld => ?_)
              clear hK K
              try simp only [List.getElem_toArray, List.getElem_cons_zero, List.getElem_cons_succ, Act.put, List.setIfInBounds_toArray, List.set_cons_zero, List.set_cons_succ]
              refine wpAnyH_done (by kernel_rfl) ?_ _
              refine NoPanic.normal ?_
              go_wp2_with (fail)
              go_roundw
              case rel => exact ⟨i + 1, by omega, by go_num, Lib.hid (HEND.out _ _ (by rw [Bool.true_and, Bool.eq_iff_iff, decide_eq_true_eq, decide_eq_true_eq]; omega) HS10.out)⟩
              case measure => simp [intOf]; omega
            refine AllReadyH.cons (o := _) rfl (fun K hK => ?_) AllReadyH.nil
            go_simp
            have HN := Lib.hid (And.intro (heap_alloc_new (W1.drew) (.cells #[.string ⟨yes.toArray⟩, .string ⟨pt.toArray⟩] 9)) (HGO.out _ HX.out))
            have HX := Lib.hid (HX.out.alloc HX.out.size (.cells #[.string ⟨yes.toArray⟩, .string ⟨pt.toArray⟩] 9))
            refine hK.out _ _ (HCL.out _ HX.out) (fun hHeld => ?_)
            clear hK K
            try simp only [List.getElem_toArray, List.getElem_cons_zero, List.getElem_cons_succ, Act.put, List.setIfInBounds_toArray, List.set_cons_zero, List.set_cons_succ]
            refine wpAnyH_ready (rs := [3]) (by kernel_rfl) (by simp) ?_
            refine AllReadyH.cons (o := _) rfl (fun K hK => ?_) AllReadyH.nil
            go_simp
            refine (HPA.out _ HX.out).mono ?_
            rintro e w9 ⟨rfl, hw9⟩
            have HY := Lib.hid (HX.out.trans (hw9.mono HX.out.size))
            have HN := Lib.hid (And.intro ((hw9.block _ (Array.getElem?_eq_some_iff.1 HN.out.1).1).trans HN.out.1) HN.out.2)
            have HX := Lib.hid HY.out
            clear HY hw9
            (try go_wp2_with (fail))
            refine hK.out _ _ (HCL.out _ HX.out) (fun hHeld => ?_)
            clear hK K
            try simp only [List.getElem_toArray, List.getElem_cons_zero, List.getElem_cons_succ, Act.put, List.setIfInBounds_toArray, List.set_cons_zero, List.set_cons_succ]
            refine wpAnyH_take (i := 4) (oi := _) (v := ?_) rfl (by kernel_rfl) (by kernel_rfl) (by kernel_rfl) (fun _ _ _ h => h) (Or.inl ⟨by rfl, ?_⟩) (by assumption) ?_
            rotate_left 1
            · intro w hSw
              (try dsimp only at hSw)
              go_simp
              (try with_reducible rfl)
            try simp only [List.getElem_toArray, List.getElem_cons_zero, List.getElem_cons_succ, Act.put, List.setIfInBounds_toArray, List.set_cons_zero, List.set_cons_succ]
            refine wpAnyH_take (i := 5) (oi := _) (v := ?_) rfl (by kernel_rfl) (by kernel_rfl) (by kernel_rfl) (fun _ _ _ h => h) (Or.inl ⟨by rfl, ?_⟩) (by assumption) ?_
            rotate_left 1
            · intro w hSw
              (try dsimp only at hSw)
              go_simp
              (try with_reducible rfl)
            try simp only [List.getElem_toArray, List.getElem_cons_zero, List.getElem_cons_succ, Act.put, List.setIfInBounds_toArray, List.set_cons_zero, List.set_cons_succ]
            refine wpAnyH_take (i := 6) (oi := _) (v := ?_) rfl (by kernel_rfl) (by kernel_rfl) (by kernel_rfl) (fun _ _ _ h => h) (Or.inl ⟨by rfl, ?_⟩) (by assumption) ?_
            rotate_left 1
            · intro w hSw
              (try dsimp only at hSw)
              go_simp
              (try with_reducible rfl)
            try simp only [List.getElem_toArray, List.getElem_cons_zero, List.getElem_cons_succ, Act.put, List.setIfInBounds_toArray, List.set_cons_zero, List.set_cons_succ]
            refine wpAnyH_take (i := 7) (oi := _) (v := ?_) rfl (by kernel_rfl) (by kernel_rfl) (by kernel_rfl) (fun _ _ _ h => h) (Or.inl ⟨by rfl, ?_⟩) (by assumption) ?_
            rotate_left 1
            · intro w hSw
              (try dsimp only at hSw)
              go_simp
              (try with_reducible rfl)
            try simp only [List.getElem_toArray, List.getElem_cons_zero, List.getElem_cons_succ, Act.put, List.setIfInBounds_toArray, List.set_cons_zero, List.set_cons_succ]
            refine wpAnyH_ready (rs := [12]) (by kernel_rfl) (by simp) ?_
            refine AllReadyH.cons (o := _) rfl (fun K hK => ?_) AllReadyH.nil
            go_simp
            refine (HSAY.out _ _ _ HX.out HN.out.1 HN.out.2).mono ?_
            rintro e w10 ⟨rfl, h10, s7⟩
            have HS10 := Lib.hid h10
            clear h10
            (try go_wp2_with (fail))
            refine hK.out _ _ s7 (fun hHeld => ?_)
            clear hK K
            try simp only [List.getElem_toArray, List.getElem_cons_zero, List.getElem_cons_succ, Act.put, List.setIfInBounds_toArray, List.set_cons_zero, List.set_cons_succ]
            refine wpAnyH_done (by kernel_rfl) ?_ _
            refine NoPanic.normal ?_
            go_wp2_with (fail)
            go_roundw
            case rel => exact ⟨i + 1, by omega, by go_num, Lib.hid (HEND.out _ _ (by rw [Bool.true_and, Bool.eq_iff_iff, decide_eq_true_eq, decide_eq_true_eq]; omega) HS10.out)⟩
            case measure => simp [intOf]; omega
    · obtain rfl : i = l.length := by omega
      have i1 : decide ((l.length : Int) < (l.length : Int)) = false := by rw [decide_eq_false_iff_not]; omega
      rw [List.take_of_length_le (Nat.le_refl _)] at HS
      go_wp2_with (fail)
      go_end0
      exact ⟨rfl, HS.out⟩
end Go.Proofs.YtoifnnhbejofjaaDoor
end
