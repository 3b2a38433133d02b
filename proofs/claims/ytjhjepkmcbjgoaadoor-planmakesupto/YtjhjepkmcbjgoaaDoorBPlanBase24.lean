/- Texts joined: GlobR7. -/
import Derived.Test.YtjhjepkmcbjgoaaDoorBPlanBase23
import Derived.Deep.RegionHeld3
set_option linter.unusedSimpArgs false
set_option linter.unusedVariables false

/- hawserref02.parts. -/
section
set_option linter.unusedVariables false
set_option linter.unusedSimpArgs false
namespace Go.Proofs.YtjhjepkmcbjgoaaDoor
open Go.RowKit Plain

set_option maxHeartbeats 4000000 in
set_option maxRecDepth 100000 in
theorem parts_ref : ∀ (m : Nat) (P N : List (List UInt8)) (A B : Option Addr) (c d : Nat) (w : World), P.length ≤ m →
    (∀ x ∈ P, Lib.validD x = true ∧ wfP x = true ∧ x.length ≤ 65536) → (∀ x ∈ N, Lib.validD x = true ∧ x.length ≤ 65536) → P.length ≤ 65536 → N.length ≤ 65536 → P.length ≤ c → N.length ≤ d → Reads w 1 A P.length (strs P) → Reads w 1 B N.length (strs N) →
    Calls Tryd.prog 35 #[.slice A P.length c, .slice B N.length d] w (Ret w (.bool (matchT (P.map partsTok) N))) := by
  intro m
  induction m with
  | zero =>
    intro P N A B c d w hpm hP hN' hpl hN hc hd hrp hrn
    obtain rfl : P = [] := List.eq_nil_of_length_eq_zero (by omega)
    rw [List.map_nil, matchT_nil]
    obtain ⟨b, hb⟩ : ∃ b, N.isEmpty = b := ⟨_, rfl⟩
    have hb' : ((N.length : Int) == 0) = b := by rw [← hb]; cases N <;> simp; omega
    rw [hb]
    clear hrp hrn hb hP hN'
    go_enter Tryd.func35, Tryd.ntmps35
    go_wp2_with (fail)
    go_ret
    exact ⟨by simp, Below.refl _ _⟩
  | succ m ih =>
    intro P N A B c d w hpm hP hN' hpl hN hc hd hrp hrn
    cases P with
    | nil =>
      rw [List.map_nil, matchT_nil]
      obtain ⟨b, hb⟩ : ∃ b, N.isEmpty = b := ⟨_, rfl⟩
      have hb' : ((N.length : Int) == 0) = b := by rw [← hb]; cases N <;> simp; omega
      rw [hb]
      clear hrp hrn hb hP hN' ih
      go_enter Tryd.func35, Tryd.ntmps35
      go_wp2_with (fail)
      go_ret
      exact ⟨by simp, Below.refl _ _⟩
    | cons x Q =>
      have hpm' : Q.length ≤ m := by simp at hpm; omega
      have hql : Q.length ≤ 65536 := by simp at hpl; omega
      have hc2 : Q.length + 1 ≤ c := by simpa using hc
      have hQ' : ∀ x ∈ Q, Lib.validD x = true ∧ wfP x = true ∧ x.length ≤ 65536 := fun y hy => hP y (by simp [hy])
      obtain ⟨hx1, hx2, hx3⟩ := hP x (by simp)
      obtain ⟨ap, rfl, cP⟩ := hrp.str_at (k := 0) (by simp)
      replace cP : w.cell? ap = some (.string ⟨x.toArray⟩) := cP
      have hnl : (0 : Int) < (Q.length : Int) + 1 := by omega
      have hQr : ∀ B, (0 < Q.length → B = some (ap.add 1)) → ∀ W, Below w.heap.size w W → Reads W 1 B Q.length (strs Q) := fun B hB W hW => by
        have h1 := cut_at (hrp.below hW) (i := 1) (by simp) B (fun h => hB (by simp at h; omega))
        simpa using h1
      rw [List.map_cons]
      by_cases h2 : x = [42, 42]
      · subst h2
        rw [partsTok_stars]
        have hIH : ∀ i, i ≤ N.length → ∀ B', (i < N.length → B' = B.map (·.add i)) → ∀ C, (0 < Q.length → C = some (ap.add 1)) → ∀ W, Below w.heap.size w W → Calls Tryd.prog 35 #[.slice C Q.length (c - 1), .slice B' (N.length - i) (d - i)] W (Ret W (.bool (matchT (Q.map partsTok) (N.drop i)))) := fun i hi B' hB C hC W hW => by
          have h := ih Q (N.drop i) C B' (c - 1) (d - i) W hpm' hQ' (fun y hy => hN' y (List.mem_of_mem_drop hy)) hql (by simp; omega) (by omega) (by simp; omega) (hQr C hC W hW) (cut_at (hrn.below hW) hi B' hB)
          rw [List.length_drop] at h
          exact h
        have HIH := Lib.hid hIH
        obtain ⟨res, hres⟩ : ∃ b, matchT (none :: Q.map partsTok) N = b := ⟨_, rfl⟩
        have HRES := Lib.hid hres
        rw [hres]
        clear ih hIH hres hP hN' hQ' hrp hrn hQr hx1 hx2 hx3
        generalize Q.map partsTok = T at *
        go_enter Tryd.func35, Tryd.ntmps35
        go_wp2_with (fail)
        go_loopw [5] (fun t5 W => ∃ i : Nat, t5 = .int .i64 i ∧ i ≤ N.length + 1 ∧ Hid (i ≤ N.length → res = matchT (none :: T) (N.drop i)) ∧ Hid (N.length < i → res = false) ∧ Hid (Below w.heap.size w W)) (fun t5 _ => N.length + 1 - (intOf t5).toNat)
        case atStart => exact ⟨0, rfl, by omega, Lib.hid (fun _ => HRES.out.symm), Lib.hid (fun h => absurd h (by omega)), Lib.hid (Below.refl _ _)⟩
        case round =>
          obtain ⟨i, rfl, hi, HE, HF, HB⟩ := hrel
          have i0 : (0 : Int) ≤ i := by omega
          have e1 : IntKind.i64.wrap ((i : Int) + 1) = (i : Int) + 1 := IntWalk.i64_in _ (by omega)
          by_cases hiN : i ≤ N.length
          · have i1 : (i : Int) ≤ N.length := by omega
            have hC := fun B' hB C hC W (hW : Below wr.heap.size wr W) => HIH.out i hiN B' hB C hC W (HB.out.trans (hW.mono HB.out.size))
            have hE := HE.out hiN
            obtain ⟨b, hb⟩ : ∃ b, matchT T (N.drop i) = b := ⟨_, rfl⟩
            rw [hb] at hC
            have HC := Lib.hid hC
            clear hC
            cases b with
            | true =>
              have HR2 := Lib.hid (show res = true by
                rw [hE]
                rcases Nat.lt_or_ge i N.length with h | h
                · rw [matchT_star_at _ _ h, hb]; rfl
                · obtain rfl : i = N.length := by omega
                  rw [matchT_star_end, hb])
              clear hE hb
              go_wp2_with (fail)
              refine wp_region_below (by kernel_rfl) (by kernel_rfl) ?_
              repeat (go_big_quiet_step ((intro hW; go_at_call 35; exact Ret.quiet hW (HC.out _ (fun h => by rw [if_neg (by omega)]) _ (fun h => by rw [if_neg (by omega)]; rfl) _ hW))))
              refine wpQuiet_nil ?_
              intro W2 hW2
              go_wp2_with (fail)
              all_goals
                go_ret
                exact ⟨by rw [HR2.out]; rfl, HB.out.trans (hW2.mono HB.out.size)⟩
            | false =>
              have HE2 := Lib.hid (fun (h : i + 1 ≤ N.length) => show res = matchT (none :: T) (N.drop (i + 1)) by rw [hE, matchT_star_at _ _ (by omega), hb]; rfl)
              have HF2 := Lib.hid (fun (h : N.length < i + 1) => show res = false by
                obtain rfl : i = N.length := by omega
                rw [hE, matchT_star_end, hb])
              clear hE hb
              go_wp2_with (fail)
              refine wp_region_below (by kernel_rfl) (by kernel_rfl) ?_
              repeat (go_big_quiet_step ((intro hW; go_at_call 35; exact Ret.quiet hW (HC.out _ (fun h => by rw [if_neg (by omega)]) _ (fun h => by rw [if_neg (by omega)]; rfl) _ hW))))
              refine wpQuiet_nil ?_
              intro W2 hW2
              have HB2 := Lib.hid (HB.out.trans (hW2.mono HB.out.size))
              clear hW2
              go_wp2_with (fail)
              all_goals
                go_roundw
                case rel => exact ⟨i + 1, by go_num, by omega, HE2, HF2, HB2⟩
                case measure => simp [intOf]; omega
          · have HR2 := Lib.hid (HF.out (by omega))
            have d1 : decide ((i : Int) ≤ (N.length : Int)) = false := by rw [decide_eq_false_iff_not]; omega
            go_wp2_with (fail)
            go_ret
            exact ⟨by rw [HR2.out]; rfl, HB.out⟩
      · rw [partsTok_no h2]
        have h2' : (x == [42, 42]) = false := beq_eq_false_iff_ne.2 h2
        cases N with
        | nil =>
          rw [matchT_some_nil]
          clear ih hP hN' hQ' hrp hrn hQr hx1 hx2 hx3 h2
          go_enter Tryd.func35, Tryd.ntmps35
          go_wp2_with (fail)
          refine wp_region_below (by kernel_rfl) (by kernel_rfl) ?_
          repeat (go_big_quiet_step ((fail)))
          refine wpQuiet_nil ?_
          intro W2 hW2
          go_wp2_with (fail)
          go_ret
          exact ⟨by simp, hW2⟩
        | cons y N =>
          obtain ⟨hy1, hy2⟩ := hN' y (by simp)
          obtain ⟨an, rfl, cN⟩ := hrn.str_at (k := 0) (by simp)
          replace cN : w.cell? an = some (.string ⟨y.toArray⟩) := cN
          rw [matchT_some]
          have hnn : (0 : Int) < (N.length : Int) + 1 := by omega
          have hd2 : N.length + 1 ≤ d := by simpa using hd
          have hRU := fun W => Runes_ref y W hy1 hy2
          have hPT := fun A cA W (hcA : (runesP y).length ≤ cA) (hr : Reads W 1 A (runesP y).length (strs (runesP y))) => part_ref _ x (runesP y) A cA W (Nat.le_refl _) hx1 hx2 hx3 (Nat.le_trans (lits_le y hy1 _ (Nat.le_refl _)) hy2) hcA hr
          have hIH : ∀ B', (0 < N.length → B' = some (an.add 1)) → ∀ C, (0 < Q.length → C = some (ap.add 1)) → ∀ W, Below w.heap.size w W → Calls Tryd.prog 35 #[.slice C Q.length (c - 1), .slice B' N.length (d - 1)] W (Ret W (.bool (matchT (Q.map partsTok) N))) := fun B' hB C hC W hW => by
            have h1 := cut_at (hrn.below hW) (i := 1) (by simp) B' (fun h => hB (by simp at h; omega))
            exact ih Q N C B' (c - 1) (d - 1) W hpm' hQ' (fun y hy => hN' y (by simp [hy])) hql (by simp at hN; omega) (by omega) (by omega) (hQr C hC W hW) (by simpa using h1)
          rw [show partP x y = matchT (toksP x) (runesP y) from rfl]
          have hcell : ∀ W, Below w.heap.size w W → W.cell? ap = some (.string ⟨x.toArray⟩) ∧ W.cell? an = some (.string ⟨y.toArray⟩) := fun W hW => ⟨(hW.cell (World.block_lt_of_cell? _ _ cP)).trans cP, (hW.cell (World.block_lt_of_cell? _ _ cN)).trans cN⟩
          have HRU := Lib.hid hRU
          have HIH := Lib.hid hIH
          have HCE := Lib.hid hcell
          clear ih hP hN' hQ' hrp hrn hQr hx1 hx2 hx3 h2 hRU hIH hcell hy1
          generalize runesP y = Y at *
          generalize matchT (Q.map partsTok) N = mm at *
          cases ho : matchT (toksP x) Y with
          | false =>
            rw [ho] at hPT
            have HPT := Lib.hid hPT
            clear hPT ho HIH
            go_enter Tryd.func35, Tryd.ntmps35
            go_wp2_with (fail)
            have s3 := HCE.out _ (Below.refl _ _).drew
            refine wp_region_held_drew (S := fun W => W.cell? ap = some (.string ⟨x.toArray⟩) ∧ W.cell? an = some (.string ⟨y.toArray⟩)) (by kernel_rfl) s3 (fun hH => ?_)
            change wpAnyH _ _ _ _ _ (20 + 1) #[false, false, false, false, false, false, false, false, false, false, false, false, false, false, false, false, false, false, false, false, false] _ _
            refine wpAnyH_take (i := 0) (v := .slice (some an) (N.length + 1) d) rfl (by kernel_rfl) (by kernel_rfl) (by kernel_rfl) (fun _ _ _ h => h) (Or.inl ⟨by rfl, ?_⟩) (by assumption) ?_
            · intro W hW
              obtain ⟨q1, q2⟩ := hW
              go_simp
            try simp only [List.getElem_toArray, List.getElem_cons_zero, List.getElem_cons_succ, Act.put, List.setIfInBounds_toArray, List.set_cons_zero, List.set_cons_succ]
            refine wpAnyH_take (i := 1) (v := .int .i64 (N.length + 1)) rfl (by kernel_rfl) (by kernel_rfl) (by kernel_rfl) (fun _ _ _ h => h) (Or.inl ⟨by rfl, ?_⟩) (by assumption) ?_
            · intro W hW
              obtain ⟨q1, q2⟩ := hW
              go_simp
            try simp only [List.getElem_toArray, List.getElem_cons_zero, List.getElem_cons_succ, Act.put, List.setIfInBounds_toArray, List.set_cons_zero, List.set_cons_succ]
            refine wpAnyH_take (i := 2) (v := .bool true) rfl (by kernel_rfl) (by kernel_rfl) (by kernel_rfl) (fun _ _ _ h => h) (Or.inl ⟨by rfl, ?_⟩) (by assumption) ?_
            · intro W hW
              obtain ⟨q1, q2⟩ := hW
              go_simp
            try simp only [List.getElem_toArray, List.getElem_cons_zero, List.getElem_cons_succ, Act.put, List.setIfInBounds_toArray, List.set_cons_zero, List.set_cons_succ]
            refine wpAnyH_take (i := 3) (v := .bool true) rfl (by kernel_rfl) (by kernel_rfl) (by kernel_rfl) (fun _ _ _ h => h) (Or.inl ⟨by rfl, ?_⟩) (by assumption) ?_
            · intro W hW
              obtain ⟨q1, q2⟩ := hW
              go_simp
            try simp only [List.getElem_toArray, List.getElem_cons_zero, List.getElem_cons_succ, Act.put, List.setIfInBounds_toArray, List.set_cons_zero, List.set_cons_succ]
            refine wpAnyH_take (i := 4) (v := .slice (some ap) (Q.length + 1) c) rfl (by kernel_rfl) (by kernel_rfl) (by kernel_rfl) (fun _ _ _ h => h) (Or.inl ⟨by rfl, ?_⟩) (by assumption) ?_
            · intro W hW
              obtain ⟨q1, q2⟩ := hW
              go_simp
            try simp only [List.getElem_toArray, List.getElem_cons_zero, List.getElem_cons_succ, Act.put, List.setIfInBounds_toArray, List.set_cons_zero, List.set_cons_succ]
            refine wpAnyH_take (i := 5) (v := .pointer (some ap)) rfl (by kernel_rfl) (by kernel_rfl) (by kernel_rfl) (fun _ _ _ h => h) (Or.inl ⟨by rfl, ?_⟩) (by assumption) ?_
            · intro W hW
              obtain ⟨q1, q2⟩ := hW
              go_simp
            try simp only [List.getElem_toArray, List.getElem_cons_zero, List.getElem_cons_succ, Act.put, List.setIfInBounds_toArray, List.set_cons_zero, List.set_cons_succ]
            refine wpAnyH_take (i := 7) (v := .slice (some an) (N.length + 1) d) rfl (by kernel_rfl) (by kernel_rfl) (by kernel_rfl) (fun _ _ _ h => h) (Or.inl ⟨by rfl, ?_⟩) (by assumption) ?_
            · intro W hW
              obtain ⟨q1, q2⟩ := hW
              go_simp
            try simp only [List.getElem_toArray, List.getElem_cons_zero, List.getElem_cons_succ, Act.put, List.setIfInBounds_toArray, List.set_cons_zero, List.set_cons_succ]
            refine wpAnyH_take (i := 8) (v := .pointer (some an)) rfl (by kernel_rfl) (by kernel_rfl) (by kernel_rfl) (fun _ _ _ h => h) (Or.inl ⟨by rfl, ?_⟩) (by assumption) ?_
            · intro W hW
              obtain ⟨q1, q2⟩ := hW
              go_simp
            try simp only [List.getElem_toArray, List.getElem_cons_zero, List.getElem_cons_succ, Act.put, List.setIfInBounds_toArray, List.set_cons_zero, List.set_cons_succ]
            refine wpAnyH_take (i := 6) (v := .string ⟨x.toArray⟩) rfl (by kernel_rfl) (by kernel_rfl) (by kernel_rfl) (fun _ _ _ h => h) (Or.inl ⟨by rfl, ?_⟩) (by assumption) ?_
            · intro W hW
              obtain ⟨q1, q2⟩ := hW
              go_simp
            try simp only [List.getElem_toArray, List.getElem_cons_zero, List.getElem_cons_succ, Act.put, List.setIfInBounds_toArray, List.set_cons_zero, List.set_cons_succ]
            refine wpAnyH_take (i := 9) (v := .string ⟨y.toArray⟩) rfl (by kernel_rfl) (by kernel_rfl) (by kernel_rfl) (fun _ _ _ h => h) (Or.inl ⟨by rfl, ?_⟩) (by assumption) ?_
            · intro W hW
              obtain ⟨q1, q2⟩ := hW
              go_simp
            try simp only [List.getElem_toArray, List.getElem_cons_zero, List.getElem_cons_succ, Act.put, List.setIfInBounds_toArray, List.set_cons_zero, List.set_cons_succ]
            refine wpAnyH_ready (rs := [10]) (by kernel_rfl) (by simp) ?_
            refine AllReadyH.cons rfl (fun K hK => ?_) AllReadyH.nil
            go_simp
            refine (HRU.out _).mono ?_
            rintro e w4 ⟨A4, c4, rfl, hc4, hm4, hr4, hw4, _⟩
            have hB4 : Below w.heap.size w w4 := (Below.refl w.heap.size w).drew.trans (hw4.mono (Below.refl w.heap.size w).drew.size)
            refine hK.out _ _ (HCE.out _ hB4) (fun hH4 => ?_)
            clear hK K hH
            refine wpAnyH_ready (rs := [11]) (by kernel_rfl) (by simp) ?_
            refine AllReadyH.cons rfl (fun K hK => ?_) AllReadyH.nil
            go_simp
            refine (HPT.out _ _ _ hc4 hr4).mono ?_
            rintro e w5 ⟨rfl, hw5⟩
            have hB5 := hB4.trans (hw5.mono hB4.size)
            refine hK.out _ _ (HCE.out _ hB5) (fun hH5 => ?_)
            clear hK K hH4
            refine wpAnyH_take (i := 12) (v := .bool false) rfl (by kernel_rfl) (by kernel_rfl) (by kernel_rfl) (fun _ _ _ h => h) (Or.inl ⟨by rfl, ?_⟩) (by assumption) ?_
            · intro W hW
              obtain ⟨q1, q2⟩ := hW
              go_simp
            try simp only [List.getElem_toArray, List.getElem_cons_zero, List.getElem_cons_succ, Act.put, List.setIfInBounds_toArray, List.set_cons_zero, List.set_cons_succ]
            refine wpAnyH_take (i := 13) (v := .bool false) rfl (by kernel_rfl) (by kernel_rfl) (by kernel_rfl) (fun _ _ _ h => h) (Or.inl ⟨by rfl, ?_⟩) (by assumption) ?_
            · intro W hW
              obtain ⟨q1, q2⟩ := hW
              go_simp
            try simp only [List.getElem_toArray, List.getElem_cons_zero, List.getElem_cons_succ, Act.put, List.setIfInBounds_toArray, List.set_cons_zero, List.set_cons_succ]
            refine wpAnyH_take (i := 14) (v := undef) rfl (by kernel_rfl) (by kernel_rfl) (by kernel_rfl) (fun _ _ _ h => h) (Or.inr ⟨by rfl, rfl⟩) (by assumption) ?_
            try simp only [List.getElem_toArray, List.getElem_cons_zero, List.getElem_cons_succ, Act.put, List.setIfInBounds_toArray, List.set_cons_zero, List.set_cons_succ]
            refine wpAnyH_take (i := 15) (v := undef) rfl (by kernel_rfl) (by kernel_rfl) (by kernel_rfl) (fun _ _ _ h => h) (Or.inr ⟨by rfl, rfl⟩) (by assumption) ?_
            try simp only [List.getElem_toArray, List.getElem_cons_zero, List.getElem_cons_succ, Act.put, List.setIfInBounds_toArray, List.set_cons_zero, List.set_cons_succ]
            refine wpAnyH_take (i := 16) (v := undef) rfl (by kernel_rfl) (by kernel_rfl) (by kernel_rfl) (fun _ _ _ h => h) (Or.inr ⟨by rfl, rfl⟩) (by assumption) ?_
            try simp only [List.getElem_toArray, List.getElem_cons_zero, List.getElem_cons_succ, Act.put, List.setIfInBounds_toArray, List.set_cons_zero, List.set_cons_succ]
            refine wpAnyH_take (i := 17) (v := undef) rfl (by kernel_rfl) (by kernel_rfl) (by kernel_rfl) (fun _ _ _ h => h) (Or.inr ⟨by rfl, rfl⟩) (by assumption) ?_
            try simp only [List.getElem_toArray, List.getElem_cons_zero, List.getElem_cons_succ, Act.put, List.setIfInBounds_toArray, List.set_cons_zero, List.set_cons_succ]
            refine wpAnyH_take (i := 18) (v := undef) rfl (by kernel_rfl) (by kernel_rfl) (by kernel_rfl) (fun _ _ _ h => h) (Or.inr ⟨by rfl, rfl⟩) (by assumption) ?_
            try simp only [List.getElem_toArray, List.getElem_cons_zero, List.getElem_cons_succ, Act.put, List.setIfInBounds_toArray, List.set_cons_zero, List.set_cons_succ]
            refine wpAnyH_take (i := 19) (v := .bool false) rfl (by kernel_rfl) (by kernel_rfl) (by kernel_rfl) (fun _ _ _ h => h) (Or.inl ⟨by rfl, ?_⟩) (by assumption) ?_
            · intro W hW
              obtain ⟨q1, q2⟩ := hW
              go_simp
            try simp only [List.getElem_toArray, List.getElem_cons_zero, List.getElem_cons_succ, Act.put, List.setIfInBounds_toArray, List.set_cons_zero, List.set_cons_succ]
            refine wpAnyH_take (i := 20) (v := .bool false) rfl (by kernel_rfl) (by kernel_rfl) (by kernel_rfl) (fun _ _ _ h => h) (Or.inl ⟨by rfl, ?_⟩) (by assumption) ?_
            · intro W hW
              obtain ⟨q1, q2⟩ := hW
              go_simp
            try simp only [List.getElem_toArray, List.getElem_cons_zero, List.getElem_cons_succ, Act.put, List.setIfInBounds_toArray, List.set_cons_zero, List.set_cons_succ]
            refine wpAnyH_done (by kernel_rfl) ?_ _
            all_goals
              go_wp2_with (fail)
              go_ret
              exact ⟨by simp, hB5⟩
          | true =>
            rw [ho] at hPT
            have HPT := Lib.hid hPT
            clear hPT ho hc hd
            by_cases hc1 : c = 1
            · by_cases hd1 : d = 1
              · skip
                obtain rfl : Q = [] := List.eq_nil_of_length_eq_zero (by omega)
                subst hc1
                obtain rfl : N = [] := List.eq_nil_of_length_eq_zero (by omega)
                subst hd1
                have HQ := Lib.hid (fun W hW => HIH.out (some an) (fun h => absurd h (by simp)) (some ap) (fun h => absurd h (by simp)) W hW)
                clear hc2 hd2 HIH
                go_enter Tryd.func35, Tryd.ntmps35
                go_wp2_with (fail)
                have s3 := HCE.out _ (Below.refl _ _).drew
                refine wp_region_held_drew (S := fun W => W.cell? ap = some (.string ⟨x.toArray⟩) ∧ W.cell? an = some (.string ⟨y.toArray⟩)) (by kernel_rfl) s3 (fun hH => ?_)
                change wpAnyH _ _ _ _ _ (20 + 1) #[false, false, false, false, false, false, false, false, false, false, false, false, false, false, false, false, false, false, false, false, false] _ _
                refine wpAnyH_take (i := 0) (v := .slice (some an) 1 1) rfl (by kernel_rfl) (by kernel_rfl) (by kernel_rfl) (fun _ _ _ h => h) (Or.inl ⟨by rfl, ?_⟩) (by assumption) ?_
                · intro W hW
                  obtain ⟨q1, q2⟩ := hW
                  go_simp
                try simp only [List.getElem_toArray, List.getElem_cons_zero, List.getElem_cons_succ, Act.put, List.setIfInBounds_toArray, List.set_cons_zero, List.set_cons_succ]
                refine wpAnyH_take (i := 1) (v := .int .i64 1) rfl (by kernel_rfl) (by kernel_rfl) (by kernel_rfl) (fun _ _ _ h => h) (Or.inl ⟨by rfl, ?_⟩) (by assumption) ?_
                · intro W hW
                  obtain ⟨q1, q2⟩ := hW
                  go_simp
                try simp only [List.getElem_toArray, List.getElem_cons_zero, List.getElem_cons_succ, Act.put, List.setIfInBounds_toArray, List.set_cons_zero, List.set_cons_succ]
                refine wpAnyH_take (i := 2) (v := .bool true) rfl (by kernel_rfl) (by kernel_rfl) (by kernel_rfl) (fun _ _ _ h => h) (Or.inl ⟨by rfl, ?_⟩) (by assumption) ?_
                · intro W hW
                  obtain ⟨q1, q2⟩ := hW
                  go_simp
                try simp only [List.getElem_toArray, List.getElem_cons_zero, List.getElem_cons_succ, Act.put, List.setIfInBounds_toArray, List.set_cons_zero, List.set_cons_succ]
                refine wpAnyH_take (i := 3) (v := .bool true) rfl (by kernel_rfl) (by kernel_rfl) (by kernel_rfl) (fun _ _ _ h => h) (Or.inl ⟨by rfl, ?_⟩) (by assumption) ?_
                · intro W hW
                  obtain ⟨q1, q2⟩ := hW
                  go_simp
                try simp only [List.getElem_toArray, List.getElem_cons_zero, List.getElem_cons_succ, Act.put, List.setIfInBounds_toArray, List.set_cons_zero, List.set_cons_succ]
                refine wpAnyH_take (i := 4) (v := .slice (some ap) 1 1) rfl (by kernel_rfl) (by kernel_rfl) (by kernel_rfl) (fun _ _ _ h => h) (Or.inl ⟨by rfl, ?_⟩) (by assumption) ?_
                · intro W hW
                  obtain ⟨q1, q2⟩ := hW
                  go_simp
                try simp only [List.getElem_toArray, List.getElem_cons_zero, List.getElem_cons_succ, Act.put, List.setIfInBounds_toArray, List.set_cons_zero, List.set_cons_succ]
                refine wpAnyH_take (i := 5) (v := .pointer (some ap)) rfl (by kernel_rfl) (by kernel_rfl) (by kernel_rfl) (fun _ _ _ h => h) (Or.inl ⟨by rfl, ?_⟩) (by assumption) ?_
                · intro W hW
                  obtain ⟨q1, q2⟩ := hW
                  go_simp
                try simp only [List.getElem_toArray, List.getElem_cons_zero, List.getElem_cons_succ, Act.put, List.setIfInBounds_toArray, List.set_cons_zero, List.set_cons_succ]
                refine wpAnyH_take (i := 7) (v := .slice (some an) 1 1) rfl (by kernel_rfl) (by kernel_rfl) (by kernel_rfl) (fun _ _ _ h => h) (Or.inl ⟨by rfl, ?_⟩) (by assumption) ?_
                · intro W hW
                  obtain ⟨q1, q2⟩ := hW
                  go_simp
                try simp only [List.getElem_toArray, List.getElem_cons_zero, List.getElem_cons_succ, Act.put, List.setIfInBounds_toArray, List.set_cons_zero, List.set_cons_succ]
                refine wpAnyH_take (i := 8) (v := .pointer (some an)) rfl (by kernel_rfl) (by kernel_rfl) (by kernel_rfl) (fun _ _ _ h => h) (Or.inl ⟨by rfl, ?_⟩) (by assumption) ?_
                · intro W hW
                  obtain ⟨q1, q2⟩ := hW
                  go_simp
                try simp only [List.getElem_toArray, List.getElem_cons_zero, List.getElem_cons_succ, Act.put, List.setIfInBounds_toArray, List.set_cons_zero, List.set_cons_succ]
                refine wpAnyH_take (i := 6) (v := .string ⟨x.toArray⟩) rfl (by kernel_rfl) (by kernel_rfl) (by kernel_rfl) (fun _ _ _ h => h) (Or.inl ⟨by rfl, ?_⟩) (by assumption) ?_
                · intro W hW
                  obtain ⟨q1, q2⟩ := hW
                  go_simp
                try simp only [List.getElem_toArray, List.getElem_cons_zero, List.getElem_cons_succ, Act.put, List.setIfInBounds_toArray, List.set_cons_zero, List.set_cons_succ]
                refine wpAnyH_take (i := 9) (v := .string ⟨y.toArray⟩) rfl (by kernel_rfl) (by kernel_rfl) (by kernel_rfl) (fun _ _ _ h => h) (Or.inl ⟨by rfl, ?_⟩) (by assumption) ?_
                · intro W hW
                  obtain ⟨q1, q2⟩ := hW
                  go_simp
                try simp only [List.getElem_toArray, List.getElem_cons_zero, List.getElem_cons_succ, Act.put, List.setIfInBounds_toArray, List.set_cons_zero, List.set_cons_succ]
                refine wpAnyH_ready (rs := [10]) (by kernel_rfl) (by simp) ?_
                refine AllReadyH.cons rfl (fun K hK => ?_) AllReadyH.nil
                go_simp
                refine (HRU.out _).mono ?_
                rintro e w4 ⟨A4, c4, rfl, hc4, hm4, hr4, hw4, _⟩
                have hB4 : Below w.heap.size w w4 := (Below.refl w.heap.size w).drew.trans (hw4.mono (Below.refl w.heap.size w).drew.size)
                refine hK.out _ _ (HCE.out _ hB4) (fun hH4 => ?_)
                clear hK K hH
                refine wpAnyH_ready (rs := [11]) (by kernel_rfl) (by simp) ?_
                refine AllReadyH.cons rfl (fun K hK => ?_) AllReadyH.nil
                go_simp
                refine (HPT.out _ _ _ hc4 hr4).mono ?_
                rintro e w5 ⟨rfl, hw5⟩
                have hB5 := hB4.trans (hw5.mono hB4.size)
                refine hK.out _ _ (HCE.out _ hB5) (fun hH5 => ?_)
                clear hK K hH4
                refine wpAnyH_take (i := 12) (v := .bool true) rfl (by kernel_rfl) (by kernel_rfl) (by kernel_rfl) (fun _ _ _ h => h) (Or.inl ⟨by rfl, ?_⟩) (by assumption) ?_
                · intro W hW
                  obtain ⟨q1, q2⟩ := hW
                  go_simp
                try simp only [List.getElem_toArray, List.getElem_cons_zero, List.getElem_cons_succ, Act.put, List.setIfInBounds_toArray, List.set_cons_zero, List.set_cons_succ]
                refine wpAnyH_take (i := 13) (v := .bool true) rfl (by kernel_rfl) (by kernel_rfl) (by kernel_rfl) (fun _ _ _ h => h) (Or.inl ⟨by rfl, ?_⟩) (by assumption) ?_
                · intro W hW
                  obtain ⟨q1, q2⟩ := hW
                  go_simp
                try simp only [List.getElem_toArray, List.getElem_cons_zero, List.getElem_cons_succ, Act.put, List.setIfInBounds_toArray, List.set_cons_zero, List.set_cons_succ]
                refine wpAnyH_take (i := 14) (v := .slice (some ap) 1 1) rfl (by kernel_rfl) (by kernel_rfl) (by kernel_rfl) (fun _ _ _ h => h) (Or.inl ⟨by rfl, ?_⟩) (by assumption) ?_
                · intro W hW
                  obtain ⟨q1, q2⟩ := hW
                  go_simp
                try simp only [List.getElem_toArray, List.getElem_cons_zero, List.getElem_cons_succ, Act.put, List.setIfInBounds_toArray, List.set_cons_zero, List.set_cons_succ]
                refine wpAnyH_take (i := 16) (v := .slice (some an) 1 1) rfl (by kernel_rfl) (by kernel_rfl) (by kernel_rfl) (fun _ _ _ h => h) (Or.inl ⟨by rfl, ?_⟩) (by assumption) ?_
                · intro W hW
                  obtain ⟨q1, q2⟩ := hW
                  go_simp
                try simp only [List.getElem_toArray, List.getElem_cons_zero, List.getElem_cons_succ, Act.put, List.setIfInBounds_toArray, List.set_cons_zero, List.set_cons_succ]
                refine wpAnyH_take (i := 15) (v := .slice (some ap) 0 0) rfl (by kernel_rfl) (by kernel_rfl) (by kernel_rfl) (fun _ _ _ h => h) (Or.inl ⟨by rfl, ?_⟩) (by assumption) ?_
                · intro W hW
                  obtain ⟨q1, q2⟩ := hW
                  go_simp
                try simp only [List.getElem_toArray, List.getElem_cons_zero, List.getElem_cons_succ, Act.put, List.setIfInBounds_toArray, List.set_cons_zero, List.set_cons_succ]
                refine wpAnyH_take (i := 17) (v := .slice (some an) 0 0) rfl (by kernel_rfl) (by kernel_rfl) (by kernel_rfl) (fun _ _ _ h => h) (Or.inl ⟨by rfl, ?_⟩) (by assumption) ?_
                · intro W hW
                  obtain ⟨q1, q2⟩ := hW
                  go_simp
                try simp only [List.getElem_toArray, List.getElem_cons_zero, List.getElem_cons_succ, Act.put, List.setIfInBounds_toArray, List.set_cons_zero, List.set_cons_succ]
                refine wpAnyH_ready (rs := [18]) (by kernel_rfl) (by simp) ?_
                refine AllReadyH.cons rfl (fun K hK => ?_) AllReadyH.nil
                go_simp
                refine (HQ.out _ hB5).mono ?_
                rintro e w6 ⟨rfl, hw6⟩
                have hB6 := hB5.trans (hw6.mono hB5.size)
                refine hK.out _ _ (HCE.out _ hB6) (fun hH6 => ?_)
                clear hK K hH5
                refine wpAnyH_take (i := 19) (v := .bool mm) rfl (by kernel_rfl) (by kernel_rfl) (by kernel_rfl) (fun _ _ _ h => h) (Or.inl ⟨by rfl, ?_⟩) (by assumption) ?_
                · intro W hW
                  obtain ⟨q1, q2⟩ := hW
                  go_simp
                try simp only [List.getElem_toArray, List.getElem_cons_zero, List.getElem_cons_succ, Act.put, List.setIfInBounds_toArray, List.set_cons_zero, List.set_cons_succ]
                refine wpAnyH_take (i := 20) (v := .bool mm) rfl (by kernel_rfl) (by kernel_rfl) (by kernel_rfl) (fun _ _ _ h => h) (Or.inl ⟨by rfl, ?_⟩) (by assumption) ?_
                · intro W hW
                  obtain ⟨q1, q2⟩ := hW
                  go_simp
                try simp only [List.getElem_toArray, List.getElem_cons_zero, List.getElem_cons_succ, Act.put, List.setIfInBounds_toArray, List.set_cons_zero, List.set_cons_succ]
                refine wpAnyH_done (by kernel_rfl) ?_ _
                all_goals
                  go_wp2_with (fail)
                  go_ret
                  exact ⟨by simp, hB6⟩
              · skip
                obtain rfl : Q = [] := List.eq_nil_of_length_eq_zero (by omega)
                subst hc1
                have HQ := Lib.hid (fun W hW => HIH.out (some (an.add 1)) (fun _ => rfl) (some ap) (fun h => absurd h (by simp)) W hW)
                clear hc2 hd2 HIH
                go_enter Tryd.func35, Tryd.ntmps35
                go_wp2_with (fail)
                have s3 := HCE.out _ (Below.refl _ _).drew
                refine wp_region_held_drew (S := fun W => W.cell? ap = some (.string ⟨x.toArray⟩) ∧ W.cell? an = some (.string ⟨y.toArray⟩)) (by kernel_rfl) s3 (fun hH => ?_)
                change wpAnyH _ _ _ _ _ (20 + 1) #[false, false, false, false, false, false, false, false, false, false, false, false, false, false, false, false, false, false, false, false, false] _ _
                refine wpAnyH_take (i := 0) (v := .slice (some an) (N.length + 1) d) rfl (by kernel_rfl) (by kernel_rfl) (by kernel_rfl) (fun _ _ _ h => h) (Or.inl ⟨by rfl, ?_⟩) (by assumption) ?_
                · intro W hW
                  obtain ⟨q1, q2⟩ := hW
                  go_simp
                try simp only [List.getElem_toArray, List.getElem_cons_zero, List.getElem_cons_succ, Act.put, List.setIfInBounds_toArray, List.set_cons_zero, List.set_cons_succ]
                refine wpAnyH_take (i := 1) (v := .int .i64 (N.length + 1)) rfl (by kernel_rfl) (by kernel_rfl) (by kernel_rfl) (fun _ _ _ h => h) (Or.inl ⟨by rfl, ?_⟩) (by assumption) ?_
                · intro W hW
                  obtain ⟨q1, q2⟩ := hW
                  go_simp
                try simp only [List.getElem_toArray, List.getElem_cons_zero, List.getElem_cons_succ, Act.put, List.setIfInBounds_toArray, List.set_cons_zero, List.set_cons_succ]
                refine wpAnyH_take (i := 2) (v := .bool true) rfl (by kernel_rfl) (by kernel_rfl) (by kernel_rfl) (fun _ _ _ h => h) (Or.inl ⟨by rfl, ?_⟩) (by assumption) ?_
                · intro W hW
                  obtain ⟨q1, q2⟩ := hW
                  go_simp
                try simp only [List.getElem_toArray, List.getElem_cons_zero, List.getElem_cons_succ, Act.put, List.setIfInBounds_toArray, List.set_cons_zero, List.set_cons_succ]
                refine wpAnyH_take (i := 3) (v := .bool true) rfl (by kernel_rfl) (by kernel_rfl) (by kernel_rfl) (fun _ _ _ h => h) (Or.inl ⟨by rfl, ?_⟩) (by assumption) ?_
                · intro W hW
                  obtain ⟨q1, q2⟩ := hW
                  go_simp
                try simp only [List.getElem_toArray, List.getElem_cons_zero, List.getElem_cons_succ, Act.put, List.setIfInBounds_toArray, List.set_cons_zero, List.set_cons_succ]
                refine wpAnyH_take (i := 4) (v := .slice (some ap) 1 1) rfl (by kernel_rfl) (by kernel_rfl) (by kernel_rfl) (fun _ _ _ h => h) (Or.inl ⟨by rfl, ?_⟩) (by assumption) ?_
                · intro W hW
                  obtain ⟨q1, q2⟩ := hW
                  go_simp
                try simp only [List.getElem_toArray, List.getElem_cons_zero, List.getElem_cons_succ, Act.put, List.setIfInBounds_toArray, List.set_cons_zero, List.set_cons_succ]
                refine wpAnyH_take (i := 5) (v := .pointer (some ap)) rfl (by kernel_rfl) (by kernel_rfl) (by kernel_rfl) (fun _ _ _ h => h) (Or.inl ⟨by rfl, ?_⟩) (by assumption) ?_
                · intro W hW
                  obtain ⟨q1, q2⟩ := hW
                  go_simp
                try simp only [List.getElem_toArray, List.getElem_cons_zero, List.getElem_cons_succ, Act.put, List.setIfInBounds_toArray, List.set_cons_zero, List.set_cons_succ]
                refine wpAnyH_take (i := 7) (v := .slice (some an) (N.length + 1) d) rfl (by kernel_rfl) (by kernel_rfl) (by kernel_rfl) (fun _ _ _ h => h) (Or.inl ⟨by rfl, ?_⟩) (by assumption) ?_
                · intro W hW
                  obtain ⟨q1, q2⟩ := hW
                  go_simp
                try simp only [List.getElem_toArray, List.getElem_cons_zero, List.getElem_cons_succ, Act.put, List.setIfInBounds_toArray, List.set_cons_zero, List.set_cons_succ]
                refine wpAnyH_take (i := 8) (v := .pointer (some an)) rfl (by kernel_rfl) (by kernel_rfl) (by kernel_rfl) (fun _ _ _ h => h) (Or.inl ⟨by rfl, ?_⟩) (by assumption) ?_
                · intro W hW
                  obtain ⟨q1, q2⟩ := hW
                  go_simp
                try simp only [List.getElem_toArray, List.getElem_cons_zero, List.getElem_cons_succ, Act.put, List.setIfInBounds_toArray, List.set_cons_zero, List.set_cons_succ]
                refine wpAnyH_take (i := 6) (v := .string ⟨x.toArray⟩) rfl (by kernel_rfl) (by kernel_rfl) (by kernel_rfl) (fun _ _ _ h => h) (Or.inl ⟨by rfl, ?_⟩) (by assumption) ?_
                · intro W hW
                  obtain ⟨q1, q2⟩ := hW
                  go_simp
                try simp only [List.getElem_toArray, List.getElem_cons_zero, List.getElem_cons_succ, Act.put, List.setIfInBounds_toArray, List.set_cons_zero, List.set_cons_succ]
                refine wpAnyH_take (i := 9) (v := .string ⟨y.toArray⟩) rfl (by kernel_rfl) (by kernel_rfl) (by kernel_rfl) (fun _ _ _ h => h) (Or.inl ⟨by rfl, ?_⟩) (by assumption) ?_
                · intro W hW
                  obtain ⟨q1, q2⟩ := hW
                  go_simp
                try simp only [List.getElem_toArray, List.getElem_cons_zero, List.getElem_cons_succ, Act.put, List.setIfInBounds_toArray, List.set_cons_zero, List.set_cons_succ]
                refine wpAnyH_ready (rs := [10]) (by kernel_rfl) (by simp) ?_
                refine AllReadyH.cons rfl (fun K hK => ?_) AllReadyH.nil
                go_simp
                refine (HRU.out _).mono ?_
                rintro e w4 ⟨A4, c4, rfl, hc4, hm4, hr4, hw4, _⟩
                have hB4 : Below w.heap.size w w4 := (Below.refl w.heap.size w).drew.trans (hw4.mono (Below.refl w.heap.size w).drew.size)
                refine hK.out _ _ (HCE.out _ hB4) (fun hH4 => ?_)
                clear hK K hH
                refine wpAnyH_ready (rs := [11]) (by kernel_rfl) (by simp) ?_
                refine AllReadyH.cons rfl (fun K hK => ?_) AllReadyH.nil
                go_simp
                refine (HPT.out _ _ _ hc4 hr4).mono ?_
                rintro e w5 ⟨rfl, hw5⟩
                have hB5 := hB4.trans (hw5.mono hB4.size)
                refine hK.out _ _ (HCE.out _ hB5) (fun hH5 => ?_)
                clear hK K hH4
                refine wpAnyH_take (i := 12) (v := .bool true) rfl (by kernel_rfl) (by kernel_rfl) (by kernel_rfl) (fun _ _ _ h => h) (Or.inl ⟨by rfl, ?_⟩) (by assumption) ?_
                · intro W hW
                  obtain ⟨q1, q2⟩ := hW
                  go_simp
                try simp only [List.getElem_toArray, List.getElem_cons_zero, List.getElem_cons_succ, Act.put, List.setIfInBounds_toArray, List.set_cons_zero, List.set_cons_succ]
                refine wpAnyH_take (i := 13) (v := .bool true) rfl (by kernel_rfl) (by kernel_rfl) (by kernel_rfl) (fun _ _ _ h => h) (Or.inl ⟨by rfl, ?_⟩) (by assumption) ?_
                · intro W hW
                  obtain ⟨q1, q2⟩ := hW
                  go_simp
                try simp only [List.getElem_toArray, List.getElem_cons_zero, List.getElem_cons_succ, Act.put, List.setIfInBounds_toArray, List.set_cons_zero, List.set_cons_succ]
                refine wpAnyH_take (i := 14) (v := .slice (some ap) 1 1) rfl (by kernel_rfl) (by kernel_rfl) (by kernel_rfl) (fun _ _ _ h => h) (Or.inl ⟨by rfl, ?_⟩) (by assumption) ?_
                · intro W hW
                  obtain ⟨q1, q2⟩ := hW
                  go_simp
                try simp only [List.getElem_toArray, List.getElem_cons_zero, List.getElem_cons_succ, Act.put, List.setIfInBounds_toArray, List.set_cons_zero, List.set_cons_succ]
                refine wpAnyH_take (i := 16) (v := .slice (some an) (N.length + 1) d) rfl (by kernel_rfl) (by kernel_rfl) (by kernel_rfl) (fun _ _ _ h => h) (Or.inl ⟨by rfl, ?_⟩) (by assumption) ?_
                · intro W hW
                  obtain ⟨q1, q2⟩ := hW
                  go_simp
                try simp only [List.getElem_toArray, List.getElem_cons_zero, List.getElem_cons_succ, Act.put, List.setIfInBounds_toArray, List.set_cons_zero, List.set_cons_succ]
                refine wpAnyH_take (i := 15) (v := .slice (some ap) 0 0) rfl (by kernel_rfl) (by kernel_rfl) (by kernel_rfl) (fun _ _ _ h => h) (Or.inl ⟨by rfl, ?_⟩) (by assumption) ?_
                · intro W hW
                  obtain ⟨q1, q2⟩ := hW
                  go_simp
                try simp only [List.getElem_toArray, List.getElem_cons_zero, List.getElem_cons_succ, Act.put, List.setIfInBounds_toArray, List.set_cons_zero, List.set_cons_succ]
                refine wpAnyH_take (i := 17) (v := .slice (some (an.add 1)) N.length (d - 1)) rfl (by kernel_rfl) (by kernel_rfl) (by kernel_rfl) (fun _ _ _ h => h) (Or.inl ⟨by rfl, ?_⟩) (by assumption) ?_
                · intro W hW
                  obtain ⟨q1, q2⟩ := hW
                  go_simp
                  first
                    | done
                    | (simp [hc1, Addr.add]; done)
                    | (simp [hd1, Addr.add]; done)
                    | (simp [hc1, Addr.add]; intro hh; omega)
                    | (simp [hd1, Addr.add]; intro hh; omega)
                    | (intro hh; omega)
                try simp only [List.getElem_toArray, List.getElem_cons_zero, List.getElem_cons_succ, Act.put, List.setIfInBounds_toArray, List.set_cons_zero, List.set_cons_succ]
                refine wpAnyH_ready (rs := [18]) (by kernel_rfl) (by simp) ?_
                refine AllReadyH.cons rfl (fun K hK => ?_) AllReadyH.nil
                go_simp
                refine (HQ.out _ hB5).mono ?_
                rintro e w6 ⟨rfl, hw6⟩
                have hB6 := hB5.trans (hw6.mono hB5.size)
                refine hK.out _ _ (HCE.out _ hB6) (fun hH6 => ?_)
                clear hK K hH5
                refine wpAnyH_take (i := 19) (v := .bool mm) rfl (by kernel_rfl) (by kernel_rfl) (by kernel_rfl) (fun _ _ _ h => h) (Or.inl ⟨by rfl, ?_⟩) (by assumption) ?_
                · intro W hW
                  obtain ⟨q1, q2⟩ := hW
                  go_simp
                try simp only [List.getElem_toArray, List.getElem_cons_zero, List.getElem_cons_succ, Act.put, List.setIfInBounds_toArray, List.set_cons_zero, List.set_cons_succ]
                refine wpAnyH_take (i := 20) (v := .bool mm) rfl (by kernel_rfl) (by kernel_rfl) (by kernel_rfl) (fun _ _ _ h => h) (Or.inl ⟨by rfl, ?_⟩) (by assumption) ?_
                · intro W hW
                  obtain ⟨q1, q2⟩ := hW
                  go_simp
                try simp only [List.getElem_toArray, List.getElem_cons_zero, List.getElem_cons_succ, Act.put, List.setIfInBounds_toArray, List.set_cons_zero, List.set_cons_succ]
                refine wpAnyH_done (by kernel_rfl) ?_ _
                all_goals
                  go_wp2_with (fail)
                  go_ret
                  exact ⟨by simp, hB6⟩
            · by_cases hd1 : d = 1
              · skip
                obtain rfl : N = [] := List.eq_nil_of_length_eq_zero (by omega)
                subst hd1
                have HQ := Lib.hid (fun W hW => HIH.out (some an) (fun h => absurd h (by simp)) (some (ap.add 1)) (fun _ => rfl) W hW)
                clear hc2 hd2 HIH
                go_enter Tryd.func35, Tryd.ntmps35
                go_wp2_with (fail)
                have s3 := HCE.out _ (Below.refl _ _).drew
                refine wp_region_held_drew (S := fun W => W.cell? ap = some (.string ⟨x.toArray⟩) ∧ W.cell? an = some (.string ⟨y.toArray⟩)) (by kernel_rfl) s3 (fun hH => ?_)
                change wpAnyH _ _ _ _ _ (20 + 1) #[false, false, false, false, false, false, false, false, false, false, false, false, false, false, false, false, false, false, false, false, false] _ _
                refine wpAnyH_take (i := 0) (v := .slice (some an) 1 1) rfl (by kernel_rfl) (by kernel_rfl) (by kernel_rfl) (fun _ _ _ h => h) (Or.inl ⟨by rfl, ?_⟩) (by assumption) ?_
                · intro W hW
                  obtain ⟨q1, q2⟩ := hW
                  go_simp
                try simp only [List.getElem_toArray, List.getElem_cons_zero, List.getElem_cons_succ, Act.put, List.setIfInBounds_toArray, List.set_cons_zero, List.set_cons_succ]
                refine wpAnyH_take (i := 1) (v := .int .i64 1) rfl (by kernel_rfl) (by kernel_rfl) (by kernel_rfl) (fun _ _ _ h => h) (Or.inl ⟨by rfl, ?_⟩) (by assumption) ?_
                · intro W hW
                  obtain ⟨q1, q2⟩ := hW
                  go_simp
                try simp only [List.getElem_toArray, List.getElem_cons_zero, List.getElem_cons_succ, Act.put, List.setIfInBounds_toArray, List.set_cons_zero, List.set_cons_succ]
                refine wpAnyH_take (i := 2) (v := .bool true) rfl (by kernel_rfl) (by kernel_rfl) (by kernel_rfl) (fun _ _ _ h => h) (Or.inl ⟨by rfl, ?_⟩) (by assumption) ?_
                · intro W hW
                  obtain ⟨q1, q2⟩ := hW
                  go_simp
                try simp only [List.getElem_toArray, List.getElem_cons_zero, List.getElem_cons_succ, Act.put, List.setIfInBounds_toArray, List.set_cons_zero, List.set_cons_succ]
                refine wpAnyH_take (i := 3) (v := .bool true) rfl (by kernel_rfl) (by kernel_rfl) (by kernel_rfl) (fun _ _ _ h => h) (Or.inl ⟨by rfl, ?_⟩) (by assumption) ?_
                · intro W hW
                  obtain ⟨q1, q2⟩ := hW
                  go_simp
                try simp only [List.getElem_toArray, List.getElem_cons_zero, List.getElem_cons_succ, Act.put, List.setIfInBounds_toArray, List.set_cons_zero, List.set_cons_succ]
                refine wpAnyH_take (i := 4) (v := .slice (some ap) (Q.length + 1) c) rfl (by kernel_rfl) (by kernel_rfl) (by kernel_rfl) (fun _ _ _ h => h) (Or.inl ⟨by rfl, ?_⟩) (by assumption) ?_
                · intro W hW
                  obtain ⟨q1, q2⟩ := hW
                  go_simp
                try simp only [List.getElem_toArray, List.getElem_cons_zero, List.getElem_cons_succ, Act.put, List.setIfInBounds_toArray, List.set_cons_zero, List.set_cons_succ]
                refine wpAnyH_take (i := 5) (v := .pointer (some ap)) rfl (by kernel_rfl) (by kernel_rfl) (by kernel_rfl) (fun _ _ _ h => h) (Or.inl ⟨by rfl, ?_⟩) (by assumption) ?_
                · intro W hW
                  obtain ⟨q1, q2⟩ := hW
                  go_simp
                try simp only [List.getElem_toArray, List.getElem_cons_zero, List.getElem_cons_succ, Act.put, List.setIfInBounds_toArray, List.set_cons_zero, List.set_cons_succ]
                refine wpAnyH_take (i := 7) (v := .slice (some an) 1 1) rfl (by kernel_rfl) (by kernel_rfl) (by kernel_rfl) (fun _ _ _ h => h) (Or.inl ⟨by rfl, ?_⟩) (by assumption) ?_
                · intro W hW
                  obtain ⟨q1, q2⟩ := hW
                  go_simp
                try simp only [List.getElem_toArray, List.getElem_cons_zero, List.getElem_cons_succ, Act.put, List.setIfInBounds_toArray, List.set_cons_zero, List.set_cons_succ]
                refine wpAnyH_take (i := 8) (v := .pointer (some an)) rfl (by kernel_rfl) (by kernel_rfl) (by kernel_rfl) (fun _ _ _ h => h) (Or.inl ⟨by rfl, ?_⟩) (by assumption) ?_
                · intro W hW
                  obtain ⟨q1, q2⟩ := hW
                  go_simp
                try simp only [List.getElem_toArray, List.getElem_cons_zero, List.getElem_cons_succ, Act.put, List.setIfInBounds_toArray, List.set_cons_zero, List.set_cons_succ]
                refine wpAnyH_take (i := 6) (v := .string ⟨x.toArray⟩) rfl (by kernel_rfl) (by kernel_rfl) (by kernel_rfl) (fun _ _ _ h => h) (Or.inl ⟨by rfl, ?_⟩) (by assumption) ?_
                · intro W hW
                  obtain ⟨q1, q2⟩ := hW
                  go_simp
                try simp only [List.getElem_toArray, List.getElem_cons_zero, List.getElem_cons_succ, Act.put, List.setIfInBounds_toArray, List.set_cons_zero, List.set_cons_succ]
                refine wpAnyH_take (i := 9) (v := .string ⟨y.toArray⟩) rfl (by kernel_rfl) (by kernel_rfl) (by kernel_rfl) (fun _ _ _ h => h) (Or.inl ⟨by rfl, ?_⟩) (by assumption) ?_
                · intro W hW
                  obtain ⟨q1, q2⟩ := hW
                  go_simp
                try simp only [List.getElem_toArray, List.getElem_cons_zero, List.getElem_cons_succ, Act.put, List.setIfInBounds_toArray, List.set_cons_zero, List.set_cons_succ]
                refine wpAnyH_ready (rs := [10]) (by kernel_rfl) (by simp) ?_
                refine AllReadyH.cons rfl (fun K hK => ?_) AllReadyH.nil
                go_simp
                refine (HRU.out _).mono ?_
                rintro e w4 ⟨A4, c4, rfl, hc4, hm4, hr4, hw4, _⟩
                have hB4 : Below w.heap.size w w4 := (Below.refl w.heap.size w).drew.trans (hw4.mono (Below.refl w.heap.size w).drew.size)
                refine hK.out _ _ (HCE.out _ hB4) (fun hH4 => ?_)
                clear hK K hH
                refine wpAnyH_ready (rs := [11]) (by kernel_rfl) (by simp) ?_
                refine AllReadyH.cons rfl (fun K hK => ?_) AllReadyH.nil
                go_simp
                refine (HPT.out _ _ _ hc4 hr4).mono ?_
                rintro e w5 ⟨rfl, hw5⟩
                have hB5 := hB4.trans (hw5.mono hB4.size)
                refine hK.out _ _ (HCE.out _ hB5) (fun hH5 => ?_)
                clear hK K hH4
                refine wpAnyH_take (i := 12) (v := .bool true) rfl (by kernel_rfl) (by kernel_rfl) (by kernel_rfl) (fun _ _ _ h => h) (Or.inl ⟨by rfl, ?_⟩) (by assumption) ?_
                · intro W hW
                  obtain ⟨q1, q2⟩ := hW
                  go_simp
                try simp only [List.getElem_toArray, List.getElem_cons_zero, List.getElem_cons_succ, Act.put, List.setIfInBounds_toArray, List.set_cons_zero, List.set_cons_succ]
                refine wpAnyH_take (i := 13) (v := .bool true) rfl (by kernel_rfl) (by kernel_rfl) (by kernel_rfl) (fun _ _ _ h => h) (Or.inl ⟨by rfl, ?_⟩) (by assumption) ?_
                · intro W hW
                  obtain ⟨q1, q2⟩ := hW
                  go_simp
                try simp only [List.getElem_toArray, List.getElem_cons_zero, List.getElem_cons_succ, Act.put, List.setIfInBounds_toArray, List.set_cons_zero, List.set_cons_succ]
                refine wpAnyH_take (i := 14) (v := .slice (some ap) (Q.length + 1) c) rfl (by kernel_rfl) (by kernel_rfl) (by kernel_rfl) (fun _ _ _ h => h) (Or.inl ⟨by rfl, ?_⟩) (by assumption) ?_
                · intro W hW
                  obtain ⟨q1, q2⟩ := hW
                  go_simp
                try simp only [List.getElem_toArray, List.getElem_cons_zero, List.getElem_cons_succ, Act.put, List.setIfInBounds_toArray, List.set_cons_zero, List.set_cons_succ]
                refine wpAnyH_take (i := 16) (v := .slice (some an) 1 1) rfl (by kernel_rfl) (by kernel_rfl) (by kernel_rfl) (fun _ _ _ h => h) (Or.inl ⟨by rfl, ?_⟩) (by assumption) ?_
                · intro W hW
                  obtain ⟨q1, q2⟩ := hW
                  go_simp
                try simp only [List.getElem_toArray, List.getElem_cons_zero, List.getElem_cons_succ, Act.put, List.setIfInBounds_toArray, List.set_cons_zero, List.set_cons_succ]
                refine wpAnyH_take (i := 15) (v := .slice (some (ap.add 1)) Q.length (c - 1)) rfl (by kernel_rfl) (by kernel_rfl) (by kernel_rfl) (fun _ _ _ h => h) (Or.inl ⟨by rfl, ?_⟩) (by assumption) ?_
                · intro W hW
                  obtain ⟨q1, q2⟩ := hW
                  go_simp
                  first
                    | done
                    | (simp [hc1, Addr.add]; done)
                    | (simp [hd1, Addr.add]; done)
                    | (simp [hc1, Addr.add]; intro hh; omega)
                    | (simp [hd1, Addr.add]; intro hh; omega)
                    | (intro hh; omega)
                try simp only [List.getElem_toArray, List.getElem_cons_zero, List.getElem_cons_succ, Act.put, List.setIfInBounds_toArray, List.set_cons_zero, List.set_cons_succ]
                refine wpAnyH_take (i := 17) (v := .slice (some an) 0 0) rfl (by kernel_rfl) (by kernel_rfl) (by kernel_rfl) (fun _ _ _ h => h) (Or.inl ⟨by rfl, ?_⟩) (by assumption) ?_
                · intro W hW
                  obtain ⟨q1, q2⟩ := hW
                  go_simp
                try simp only [List.getElem_toArray, List.getElem_cons_zero, List.getElem_cons_succ, Act.put, List.setIfInBounds_toArray, List.set_cons_zero, List.set_cons_succ]
                refine wpAnyH_ready (rs := [18]) (by kernel_rfl) (by simp) ?_
                refine AllReadyH.cons rfl (fun K hK => ?_) AllReadyH.nil
                go_simp
                refine (HQ.out _ hB5).mono ?_
                rintro e w6 ⟨rfl, hw6⟩
                have hB6 := hB5.trans (hw6.mono hB5.size)
                refine hK.out _ _ (HCE.out _ hB6) (fun hH6 => ?_)
                clear hK K hH5
                refine wpAnyH_take (i := 19) (v := .bool mm) rfl (by kernel_rfl) (by kernel_rfl) (by kernel_rfl) (fun _ _ _ h => h) (Or.inl ⟨by rfl, ?_⟩) (by assumption) ?_
                · intro W hW
                  obtain ⟨q1, q2⟩ := hW
                  go_simp
                try simp only [List.getElem_toArray, List.getElem_cons_zero, List.getElem_cons_succ, Act.put, List.setIfInBounds_toArray, List.set_cons_zero, List.set_cons_succ]
                refine wpAnyH_take (i := 20) (v := .bool mm) rfl (by kernel_rfl) (by kernel_rfl) (by kernel_rfl) (fun _ _ _ h => h) (Or.inl ⟨by rfl, ?_⟩) (by assumption) ?_
                · intro W hW
                  obtain ⟨q1, q2⟩ := hW
                  go_simp
                try simp only [List.getElem_toArray, List.getElem_cons_zero, List.getElem_cons_succ, Act.put, List.setIfInBounds_toArray, List.set_cons_zero, List.set_cons_succ]
                refine wpAnyH_done (by kernel_rfl) ?_ _
                all_goals
                  go_wp2_with (fail)
                  go_ret
                  exact ⟨by simp, hB6⟩
              · skip
                have HQ := Lib.hid (fun W hW => HIH.out (some (an.add 1)) (fun _ => rfl) (some (ap.add 1)) (fun _ => rfl) W hW)
                clear hc2 hd2 HIH
                go_enter Tryd.func35, Tryd.ntmps35
                go_wp2_with (fail)
                have s3 := HCE.out _ (Below.refl _ _).drew
                refine wp_region_held_drew (S := fun W => W.cell? ap = some (.string ⟨x.toArray⟩) ∧ W.cell? an = some (.string ⟨y.toArray⟩)) (by kernel_rfl) s3 (fun hH => ?_)
                change wpAnyH _ _ _ _ _ (20 + 1) #[false, false, false, false, false, false, false, false, false, false, false, false, false, false, false, false, false, false, false, false, false] _ _
                refine wpAnyH_take (i := 0) (v := .slice (some an) (N.length + 1) d) rfl (by kernel_rfl) (by kernel_rfl) (by kernel_rfl) (fun _ _ _ h => h) (Or.inl ⟨by rfl, ?_⟩) (by assumption) ?_
                · intro W hW
                  obtain ⟨q1, q2⟩ := hW
                  go_simp
                try simp only [List.getElem_toArray, List.getElem_cons_zero, List.getElem_cons_succ, Act.put, List.setIfInBounds_toArray, List.set_cons_zero, List.set_cons_succ]
                refine wpAnyH_take (i := 1) (v := .int .i64 (N.length + 1)) rfl (by kernel_rfl) (by kernel_rfl) (by kernel_rfl) (fun _ _ _ h => h) (Or.inl ⟨by rfl, ?_⟩) (by assumption) ?_
                · intro W hW
                  obtain ⟨q1, q2⟩ := hW
                  go_simp
                try simp only [List.getElem_toArray, List.getElem_cons_zero, List.getElem_cons_succ, Act.put, List.setIfInBounds_toArray, List.set_cons_zero, List.set_cons_succ]
                refine wpAnyH_take (i := 2) (v := .bool true) rfl (by kernel_rfl) (by kernel_rfl) (by kernel_rfl) (fun _ _ _ h => h) (Or.inl ⟨by rfl, ?_⟩) (by assumption) ?_
                · intro W hW
                  obtain ⟨q1, q2⟩ := hW
                  go_simp
                try simp only [List.getElem_toArray, List.getElem_cons_zero, List.getElem_cons_succ, Act.put, List.setIfInBounds_toArray, List.set_cons_zero, List.set_cons_succ]
                refine wpAnyH_take (i := 3) (v := .bool true) rfl (by kernel_rfl) (by kernel_rfl) (by kernel_rfl) (fun _ _ _ h => h) (Or.inl ⟨by rfl, ?_⟩) (by assumption) ?_
                · intro W hW
                  obtain ⟨q1, q2⟩ := hW
                  go_simp
                try simp only [List.getElem_toArray, List.getElem_cons_zero, List.getElem_cons_succ, Act.put, List.setIfInBounds_toArray, List.set_cons_zero, List.set_cons_succ]
                refine wpAnyH_take (i := 4) (v := .slice (some ap) (Q.length + 1) c) rfl (by kernel_rfl) (by kernel_rfl) (by kernel_rfl) (fun _ _ _ h => h) (Or.inl ⟨by rfl, ?_⟩) (by assumption) ?_
                · intro W hW
                  obtain ⟨q1, q2⟩ := hW
                  go_simp
                try simp only [List.getElem_toArray, List.getElem_cons_zero, List.getElem_cons_succ, Act.put, List.setIfInBounds_toArray, List.set_cons_zero, List.set_cons_succ]
                refine wpAnyH_take (i := 5) (v := .pointer (some ap)) rfl (by kernel_rfl) (by kernel_rfl) (by kernel_rfl) (fun _ _ _ h => h) (Or.inl ⟨by rfl, ?_⟩) (by assumption) ?_
                · intro W hW
                  obtain ⟨q1, q2⟩ := hW
                  go_simp
                try simp only [List.getElem_toArray, List.getElem_cons_zero, List.getElem_cons_succ, Act.put, List.setIfInBounds_toArray, List.set_cons_zero, List.set_cons_succ]
                refine wpAnyH_take (i := 7) (v := .slice (some an) (N.length + 1) d) rfl (by kernel_rfl) (by kernel_rfl) (by kernel_rfl) (fun _ _ _ h => h) (Or.inl ⟨by rfl, ?_⟩) (by assumption) ?_
                · intro W hW
                  obtain ⟨q1, q2⟩ := hW
                  go_simp
                try simp only [List.getElem_toArray, List.getElem_cons_zero, List.getElem_cons_succ, Act.put, List.setIfInBounds_toArray, List.set_cons_zero, List.set_cons_succ]
                refine wpAnyH_take (i := 8) (v := .pointer (some an)) rfl (by kernel_rfl) (by kernel_rfl) (by kernel_rfl) (fun _ _ _ h => h) (Or.inl ⟨by rfl, ?_⟩) (by assumption) ?_
                · intro W hW
                  obtain ⟨q1, q2⟩ := hW
                  go_simp
                try simp only [List.getElem_toArray, List.getElem_cons_zero, List.getElem_cons_succ, Act.put, List.setIfInBounds_toArray, List.set_cons_zero, List.set_cons_succ]
                refine wpAnyH_take (i := 6) (v := .string ⟨x.toArray⟩) rfl (by kernel_rfl) (by kernel_rfl) (by kernel_rfl) (fun _ _ _ h => h) (Or.inl ⟨by rfl, ?_⟩) (by assumption) ?_
                · intro W hW
                  obtain ⟨q1, q2⟩ := hW
                  go_simp
                try simp only [List.getElem_toArray, List.getElem_cons_zero, List.getElem_cons_succ, Act.put, List.setIfInBounds_toArray, List.set_cons_zero, List.set_cons_succ]
                refine wpAnyH_take (i := 9) (v := .string ⟨y.toArray⟩) rfl (by kernel_rfl) (by kernel_rfl) (by kernel_rfl) (fun _ _ _ h => h) (Or.inl ⟨by rfl, ?_⟩) (by assumption) ?_
                · intro W hW
                  obtain ⟨q1, q2⟩ := hW
                  go_simp
                try simp only [List.getElem_toArray, List.getElem_cons_zero, List.getElem_cons_succ, Act.put, List.setIfInBounds_toArray, List.set_cons_zero, List.set_cons_succ]
                refine wpAnyH_ready (rs := [10]) (by kernel_rfl) (by simp) ?_
                refine AllReadyH.cons rfl (fun K hK => ?_) AllReadyH.nil
                go_simp
                refine (HRU.out _).mono ?_
                rintro e w4 ⟨A4, c4, rfl, hc4, hm4, hr4, hw4, _⟩
                have hB4 : Below w.heap.size w w4 := (Below.refl w.heap.size w).drew.trans (hw4.mono (Below.refl w.heap.size w).drew.size)
                refine hK.out _ _ (HCE.out _ hB4) (fun hH4 => ?_)
                clear hK K hH
                refine wpAnyH_ready (rs := [11]) (by kernel_rfl) (by simp) ?_
                refine AllReadyH.cons rfl (fun K hK => ?_) AllReadyH.nil
                go_simp
                refine (HPT.out _ _ _ hc4 hr4).mono ?_
                rintro e w5 ⟨rfl, hw5⟩
                have hB5 := hB4.trans (hw5.mono hB4.size)
                refine hK.out _ _ (HCE.out _ hB5) (fun hH5 => ?_)
                clear hK K hH4
                refine wpAnyH_take (i := 12) (v := .bool true) rfl (by kernel_rfl) (by kernel_rfl) (by kernel_rfl) (fun _ _ _ h => h) (Or.inl ⟨by rfl, ?_⟩) (by assumption) ?_
                · intro W hW
                  obtain ⟨q1, q2⟩ := hW
                  go_simp
                try simp only [List.getElem_toArray, List.getElem_cons_zero, List.getElem_cons_succ, Act.put, List.setIfInBounds_toArray, List.set_cons_zero, List.set_cons_succ]
                refine wpAnyH_take (i := 13) (v := .bool true) rfl (by kernel_rfl) (by kernel_rfl) (by kernel_rfl) (fun _ _ _ h => h) (Or.inl ⟨by rfl, ?_⟩) (by assumption) ?_
                · intro W hW
                  obtain ⟨q1, q2⟩ := hW
                  go_simp
                try simp only [List.getElem_toArray, List.getElem_cons_zero, List.getElem_cons_succ, Act.put, List.setIfInBounds_toArray, List.set_cons_zero, List.set_cons_succ]
                refine wpAnyH_take (i := 14) (v := .slice (some ap) (Q.length + 1) c) rfl (by kernel_rfl) (by kernel_rfl) (by kernel_rfl) (fun _ _ _ h => h) (Or.inl ⟨by rfl, ?_⟩) (by assumption) ?_
                · intro W hW
                  obtain ⟨q1, q2⟩ := hW
                  go_simp
                try simp only [List.getElem_toArray, List.getElem_cons_zero, List.getElem_cons_succ, Act.put, List.setIfInBounds_toArray, List.set_cons_zero, List.set_cons_succ]
                refine wpAnyH_take (i := 16) (v := .slice (some an) (N.length + 1) d) rfl (by kernel_rfl) (by kernel_rfl) (by kernel_rfl) (fun _ _ _ h => h) (Or.inl ⟨by rfl, ?_⟩) (by assumption) ?_
                · intro W hW
                  obtain ⟨q1, q2⟩ := hW
                  go_simp
                try simp only [List.getElem_toArray, List.getElem_cons_zero, List.getElem_cons_succ, Act.put, List.setIfInBounds_toArray, List.set_cons_zero, List.set_cons_succ]
                refine wpAnyH_take (i := 15) (v := .slice (some (ap.add 1)) Q.length (c - 1)) rfl (by kernel_rfl) (by kernel_rfl) (by kernel_rfl) (fun _ _ _ h => h) (Or.inl ⟨by rfl, ?_⟩) (by assumption) ?_
                · intro W hW
                  obtain ⟨q1, q2⟩ := hW
                  go_simp
                  first
                    | done
                    | (simp [hc1, Addr.add]; done)
                    | (simp [hd1, Addr.add]; done)
                    | (simp [hc1, Addr.add]; intro hh; omega)
                    | (simp [hd1, Addr.add]; intro hh; omega)
                    | (intro hh; omega)
                try simp only [List.getElem_toArray, List.getElem_cons_zero, List.getElem_cons_succ, Act.put, List.setIfInBounds_toArray, List.set_cons_zero, List.set_cons_succ]
                refine wpAnyH_take (i := 17) (v := .slice (some (an.add 1)) N.length (d - 1)) rfl (by kernel_rfl) (by kernel_rfl) (by kernel_rfl) (fun _ _ _ h => h) (Or.inl ⟨by rfl, ?_⟩) (by assumption) ?_
                · intro W hW
                  obtain ⟨q1, q2⟩ := hW
                  go_simp
                  first
                    | done
                    | (simp [hc1, Addr.add]; done)
                    | (simp [hd1, Addr.add]; done)
                    | (simp [hc1, Addr.add]; intro hh; omega)
                    | (simp [hd1, Addr.add]; intro hh; omega)
                    | (intro hh; omega)
                try simp only [List.getElem_toArray, List.getElem_cons_zero, List.getElem_cons_succ, Act.put, List.setIfInBounds_toArray, List.set_cons_zero, List.set_cons_succ]
                refine wpAnyH_ready (rs := [18]) (by kernel_rfl) (by simp) ?_
                refine AllReadyH.cons rfl (fun K hK => ?_) AllReadyH.nil
                go_simp
                refine (HQ.out _ hB5).mono ?_
                rintro e w6 ⟨rfl, hw6⟩
                have hB6 := hB5.trans (hw6.mono hB5.size)
                refine hK.out _ _ (HCE.out _ hB6) (fun hH6 => ?_)
                clear hK K hH5
                refine wpAnyH_take (i := 19) (v := .bool mm) rfl (by kernel_rfl) (by kernel_rfl) (by kernel_rfl) (fun _ _ _ h => h) (Or.inl ⟨by rfl, ?_⟩) (by assumption) ?_
                · intro W hW
                  obtain ⟨q1, q2⟩ := hW
                  go_simp
                try simp only [List.getElem_toArray, List.getElem_cons_zero, List.getElem_cons_succ, Act.put, List.setIfInBounds_toArray, List.set_cons_zero, List.set_cons_succ]
                refine wpAnyH_take (i := 20) (v := .bool mm) rfl (by kernel_rfl) (by kernel_rfl) (by kernel_rfl) (fun _ _ _ h => h) (Or.inl ⟨by rfl, ?_⟩) (by assumption) ?_
                · intro W hW
                  obtain ⟨q1, q2⟩ := hW
                  go_simp
                try simp only [List.getElem_toArray, List.getElem_cons_zero, List.getElem_cons_succ, Act.put, List.setIfInBounds_toArray, List.set_cons_zero, List.set_cons_succ]
                refine wpAnyH_done (by kernel_rfl) ?_ _
                all_goals
                  go_wp2_with (fail)
                  go_ret
                  exact ⟨by simp, hB6⟩
end Go.Proofs.YtjhjepkmcbjgoaaDoor
end
