/- hawserlaw13.PlanChoices: a choice more changes what is done at its path alone. The condition: the arguments' bulk is what a machine can hold (Upto). -/
import Derived.Test.YtjhjepkmcbjgoaaDoorBPlanBase110
set_option linter.unusedSimpArgs false
set_option linter.unusedVariables false

section
set_option linter.unusedVariables false
namespace Go.Proofs.YtjhjepkmcbjgoaaDoor
open Go.RowKit Plain

set_option maxRecDepth 100000 in
set_option maxHeartbeats 8000000 in
theorem PlanChoices_any (items : List Itm) (A : Option Addr) (ca : Nat) (A0 : Option Addr) (n0 c0 : Nat) (A1 : Option Addr) (n1 c1 : Nat) (A2 : Option Addr) (c2 : Nat) (p : Prf) (fast : Bool) (ch : List Chc) (B : Option Addr) (cb : Nat) (m : Int) (w : World) (hL : Laid w m) (hR : IsRows w 2 A2 (p.merge.map prgV)) (hlen : p.merge.length ≤ 1048576)
    (hI : IsRows w 2 A (items.map itmV)) (hC : IsRows w 2 B (ch.map chcV)) (hil : items.length ≤ 1048576) (hcl : ch.length ≤ 1048576) (hcb : ch.length ≤ cb) (his : ∀ x ∈ items, x.path.length ≤ 1048576) (hcs : ∀ x ∈ ch, x.path.length ≤ 1048576) :
    Calls Tryd.prog 5 #[.slice A items.length ca, profV A0 n0 c0 A1 n1 c1 A2 c2 p fast, .slice B ch.length cb] w (Ret w (.bool true)) := by
  have HAW := Lib.hid (fun W (h : Below w.heap.size w W) => awake_any m W (hL.below h))
  have HMK := Lib.hid (fun (k : List Chc) B5 d5 W (h : Below w.heap.size w W) (h2 : IsRows W 2 B5 (k.map chcV)) (hk : k.length ≤ 1048576) (h3 : ∀ x ∈ k, x.path.length ≤ 1048576) => Make_any items A ca A0 n0 c0 A1 n1 c1 A2 c2 p fast k B5 d5 m W (hL.below h) (hR.below h) (by omega) (hI.below h) h2 (by omega) (by omega) (fun x hx => by have := his x hx; omega) (fun x hx => by have := h3 x hx; omega))
  have HRC := Lib.hid (fun W (h : Below w.heap.size w W) => hC.below h)
  obtain ⟨P, hP⟩ : ∃ P, profV A0 n0 c0 A1 n1 c1 A2 c2 p fast = P := ⟨_, rfl⟩
  have HPE := Lib.hid (show P = .agg #[.slice A0 n0 c0, .slice A1 n1 c1, .slice A2 p.merge.length c2, .int .i64 p.prefer, .int .i64 p.force, .bool p.batch, .bool fast] from hP.symm)
  rw [hP] at HMK ⊢
  obtain ⟨w1, hw1⟩ : ∃ w1, w.alloc (.cells #[.slice A0 n0 c0, .slice A1 n1 c1, .slice A2 p.merge.length c2, .int .i64 p.prefer, .int .i64 p.force, .bool p.batch, .bool fast] 26) = w1 := ⟨_, rfl⟩
  have HW1 := Lib.hid hw1
  have HB1 := Lib.hid (show Below w.heap.size w w1 by rw [← hw1]; exact (Below.refl _ _).alloc (Nat.le_refl _) _)
  have HP1 := Lib.hid (show w1.heap[w.heap.size]? = some (.cells #[.slice A0 n0 c0, .slice A1 n1 c1, .slice A2 p.merge.length c2, .int .i64 p.prefer, .int .i64 p.force, .bool p.batch, .bool fast] 26 (0, 0)) by rw [← hw1]; exact heap_alloc_new _ _)
  have HLT1 := Lib.hid (show w.heap.size < w1.heap.size by rw [← hw1]; simp)
  have HPB := Lib.hid (show ∀ W, Below w1.heap.size w1 W → W.heap[w.heap.size]? = some (.cells #[.slice A0 n0 c0, .slice A1 n1 c1, .slice A2 p.merge.length c2, .int .i64 p.prefer, .int .i64 p.force, .bool p.batch, .bool fast] 26 (0, 0)) from fun W h => (h.block _ HLT1.out).trans HP1.out)
  clear hL hR hI hC his hP hw1
  rw [HPE.out]
  go_enter Tryd.func5, Tryd.ntmps5
  go_wp2_with (fail)
  rw [HW1.out]
  refine (HAW.out _ HB1.out).mono ?_
  rintro e w2 ⟨rfl, hb2⟩
  have HB2 := Lib.hid hb2
  clear hb2
  by_cases h0 : ch.length = 0
  · have h0' : ((ch.length : Int) == 0) = true := by rw [h0]; rfl
    go_wp2_with (fail)
    go_ret
    exact ⟨rfl, HB1.out.trans (HB2.out.mono HB1.out.size)⟩
  have h0' : ((ch.length : Int) == 0) = false := by rw [beq_eq_false_iff_ne]; omega
  obtain ⟨k, x, rfl⟩ : ∃ k x, ch = k ++ [x] := ⟨ch.dropLast, ch.getLast (fun e => h0 (by rw [e]; rfl)), (List.dropLast_concat_getLast _).symm⟩
  have hkl : (k ++ [x]).length = k.length + 1 := by simp
  have hn : IntKind.i64.wrap (((k ++ [x]).length : Int) - 1) = (k.length : Int) := by rw [hkl, IntWalk.i64_in _ (by omega)]; omega
  obtain ⟨ad, rfl, q0, q1⟩ := chc_at (HRC.out w2 (HB1.out.trans (HB2.out.mono HB1.out.size))) (k := k.length) (by simp)
  have hgx : (k ++ [x])[k.length]'(by simp) = x := by simp
  rw [hgx] at q0 q1
  have i0 : (0 : Int) ≤ (k.length : Int) := by omega
  have i1 : (k.length : Int) < ((k ++ [x]).length : Int) := by rw [hkl]; omega
  obtain ⟨w3, hw3⟩ : ∃ w3, w2.alloc (.cells #[.string ⟨x.path.toArray⟩, .int .i64 x.act] 42) = w3 := ⟨_, rfl⟩
  have HW3 := Lib.hid hw3
  have HB3 := Lib.hid (show Below w1.heap.size w1 w3 by rw [← hw3]; exact HB2.out.trans ((below_alloc1 w2 _).mono HB2.out.size))
  have HX3 := Lib.hid (show w3.heap[w2.heap.size]? = some (.cells #[.string ⟨x.path.toArray⟩, .int .i64 x.act] 42 (0, 0)) by rw [← hw3]; exact heap_alloc_new _ _)
  have HLT3 := Lib.hid (show w2.heap.size < w3.heap.size by rw [← hw3]; simp)
  have h2 := HPB.out w3 HB3.out
  have t0 := cell_of_row w3 w.heap.size 0 _ _ _ h2
  have t1 := cell_of_row w3 w.heap.size 1 _ _ _ h2
  have t2 := cell_of_row w3 w.heap.size 2 _ _ _ h2
  have t3 := cell_of_row w3 w.heap.size 3 _ _ _ h2
  have t4 := cell_of_row w3 w.heap.size 4 _ _ _ h2
  have t5 := cell_of_row w3 w.heap.size 5 _ _ _ h2
  have t6 := cell_of_row w3 w.heap.size 6 _ _ _ h2
  rw [← hw3] at t0 t1 t2 t3 t4 t5 t6
  clear hw3 h2 h0
  go_wp2_with (fail)
  clear t0 t1 t2 t3 t4 t5 t6 q0 q1
  rw [HW3.out, ← HPE.out]
  have HRW := Lib.hid (HRC.out w3 (HB1.out.trans (HB3.out.mono HB1.out.size)))
  have HCK := Lib.hid (show ∀ y ∈ k, y.path.length ≤ 1048576 from fun y hy => hcs y (List.mem_append_left _ hy))
  have hm1 := HMK.out (k ++ [x]) (some ad) cb w3 (HB1.out.trans (HB3.out.mono HB1.out.size)) HRW.out hcl hcs
  rw [hkl] at hm1
  obtain ⟨r1, r2, r3, hr⟩ : ∃ r1 r2 r3, makeP items p (k ++ [x]) = (r1, r2, r3) := ⟨_, _, _, rfl⟩
  obtain ⟨s1, s2, s3, hs⟩ : ∃ s1 s2 s3, makeP items p k = (s1, s2, s3) := ⟨_, _, _, rfl⟩
  have HMO := Lib.hid (fun h => make_choice (items := items) (p := p) (ch := k) (x := x) h)
  have HML := Lib.hid (fun h => make_len (items := items) (p := p) (ch := k ++ [x]) h)
  rw [hr, hs] at HMO
  rw [hr] at HML hm1
  have hm2 := fun B5 d5 W h h2 => HMK.out k B5 d5 W h h2 (by omega) HCK.out
  rw [hs] at hm2
  have HM2 := Lib.hid hm2
  have HRL := Lib.hid (show r1.length ≤ 1048576 by
    have h1 : (makeP items p (k ++ [x])).1.length ≤ items.length := by
      unfold makeP
      split
      · simp
      · split
        · simp
        · exact outP_length _ _ _
    rw [hr] at h1; simp only at h1; omega)
  simp only at HMO HML
  clear hr hs hm2 hcs
  refine hm1.mono ?_
  intro e w4 hp
  obtain ⟨A7, c7, rfl, hr7, hb7, -, -⟩ := make_post2 hp
  have HB4 := Lib.hid (HB3.out.trans (hb7.mono HB3.out.size))
  have HR7 := Lib.hid hr7
  have HRW4 := Lib.hid (HRW.out.below hb7)
  have HX4 := Lib.hid ((hb7.block _ HLT3.out).trans HX3.out)
  have HLT4 := Lib.hid (Nat.lt_of_lt_of_le HLT3.out hb7.size)
  clear hp hr7 hb7 hm1
  have i2 : (k.length : Int) ≤ (cb : Int) := by omega
  rw [HPE.out]
  go_wp2_with (fail)
  refine wp_region_held_drew (S := fun W => W.heap[w.heap.size]? = some (.cells #[.slice A0 n0 c0, .slice A1 n1 c1, .slice A2 p.merge.length c2, .int .i64 p.prefer, .int .i64 p.force, .bool p.batch, .bool fast] 26 (0, 0))) (by kernel_rfl) (HPB.out _ HB4.out.drew) (fun hH => ?_)
  change wpAnyH _ _ _ _ _ (12 + 1) #[false, false, false, false, false, false, false, false, false, false, false, false, false] _ _
  refine wpAnyH_take (i := 0) (v := .slice A items.length ca) rfl (by kernel_rfl) (by kernel_rfl) (by kernel_rfl) (fun _ _ _ h => h) (Or.inl ⟨by rfl, ?_⟩) (by assumption) ?_
  · intro W hW
    go_simp
  try simp only [List.getElem_toArray, List.getElem_cons_zero, List.getElem_cons_succ, Act.put, List.setIfInBounds_toArray, List.set_cons_zero, List.set_cons_succ]
  refine wpAnyH_take (i := 2) (v := .slice (some ad) (k.length + 1) cb) rfl (by kernel_rfl) (by kernel_rfl) (by kernel_rfl) (fun _ _ _ h => h) (Or.inl ⟨by rfl, ?_⟩) (by assumption) ?_
  · intro W hW
    go_simp
  try simp only [List.getElem_toArray, List.getElem_cons_zero, List.getElem_cons_succ, Act.put, List.setIfInBounds_toArray, List.set_cons_zero, List.set_cons_succ]
  refine wpAnyH_take (i := 3) (v := .int .i64 k.length) rfl (by kernel_rfl) (by kernel_rfl) (by kernel_rfl) (fun _ _ _ h => h) (Or.inl ⟨by rfl, ?_⟩) (by assumption) ?_
  · intro W hW
    go_simp
  try simp only [List.getElem_toArray, List.getElem_cons_zero, List.getElem_cons_succ, Act.put, List.setIfInBounds_toArray, List.set_cons_zero, List.set_cons_succ]
  refine wpAnyH_take (i := 1) (v := .agg #[.slice A0 n0 c0, .slice A1 n1 c1, .slice A2 p.merge.length c2, .int .i64 p.prefer, .int .i64 p.force, .bool p.batch, .bool fast]) rfl (by kernel_rfl) (by kernel_rfl) (by kernel_rfl) (fun _ _ _ h => h) (Or.inl ⟨by rfl, ?_⟩) (by assumption) ?_
  · intro W hW
    have z0 := cell_of_row W w.heap.size 0 _ _ _ hW
    have z1 := cell_of_row W w.heap.size 1 _ _ _ hW
    have z2 := cell_of_row W w.heap.size 2 _ _ _ hW
    have z3 := cell_of_row W w.heap.size 3 _ _ _ hW
    have z4 := cell_of_row W w.heap.size 4 _ _ _ hW
    have z5 := cell_of_row W w.heap.size 5 _ _ _ hW
    have z6 := cell_of_row W w.heap.size 6 _ _ _ hW
    go_simp
  try simp only [List.getElem_toArray, List.getElem_cons_zero, List.getElem_cons_succ, Act.put, List.setIfInBounds_toArray, List.set_cons_zero, List.set_cons_succ]
  refine wpAnyH_take (i := 4) (v := .slice (some ad) k.length cb) rfl (by kernel_rfl) (by kernel_rfl) (by kernel_rfl) (fun _ _ _ h => h) (Or.inl ⟨by rfl, ?_⟩) (by assumption) ?_
  · intro W hW
    go_simp
  try simp only [List.getElem_toArray, List.getElem_cons_zero, List.getElem_cons_succ, Act.put, List.setIfInBounds_toArray, List.set_cons_zero, List.set_cons_succ]
  refine wpAnyH_ready (rs := [5]) (by kernel_rfl) (by simp) ?_
  refine AllReadyH.cons rfl (fun K hK => ?_) AllReadyH.nil
  go_simp
  rw [← HPE.out]
  refine (HM2.out (some ad) cb w4.drew (HB1.out.trans (HB4.out.drew.mono HB1.out.size)) (rows_left (HRW4.out.below (Below.refl _ _).drew))).mono ?_
  intro e w6 hp
  obtain ⟨A8, c8, rfl, hr8, hb8, -, -⟩ := make_post2 hp
  have hb9 : Below w4.heap.size w4 w6 := (Below.refl w4.heap.size w4).drew.trans hb8
  have HB6 := Lib.hid (HB4.out.trans (hb9.mono HB4.out.size))
  have HR8 := Lib.hid hr8
  have HR9 := Lib.hid (HR7.out.below hb9)
  have HX6 := Lib.hid ((hb9.block _ HLT4.out).trans HX4.out)
  have HLT6 := Lib.hid (Nat.lt_of_lt_of_le HLT4.out hb9.size)
  clear hp hr8 hb8 hb9
  refine hK.out _ _ (HPB.out _ HB6.out) (fun hH3 => ?_)
  clear hK K hH
  refine wpAnyH_take (i := 6) (v := .tuple #[.slice A8 s1.length c8, .int .i64 (s2 : Nat), .int .i64 (s3 : Nat)]) rfl (by kernel_rfl) (by kernel_rfl) (by kernel_rfl) (fun _ _ _ h => h) (Or.inl ⟨by rfl, ?_⟩) (by assumption) ?_
  · intro W hW
    go_simp
  try simp only [List.getElem_toArray, List.getElem_cons_zero, List.getElem_cons_succ, Act.put, List.setIfInBounds_toArray, List.set_cons_zero, List.set_cons_succ]
  refine wpAnyH_take (i := 7) (v := .slice A8 s1.length c8) rfl (by kernel_rfl) (by kernel_rfl) (by kernel_rfl) (fun _ _ _ h => h) (Or.inl ⟨by rfl, ?_⟩) (by assumption) ?_
  · intro W hW
    go_simp
  try simp only [List.getElem_toArray, List.getElem_cons_zero, List.getElem_cons_succ, Act.put, List.setIfInBounds_toArray, List.set_cons_zero, List.set_cons_succ]
  refine wpAnyH_take (i := 8) (v := .int .i64 (s2 : Nat)) rfl (by kernel_rfl) (by kernel_rfl) (by kernel_rfl) (fun _ _ _ h => h) (Or.inl ⟨by rfl, ?_⟩) (by assumption) ?_
  · intro W hW
    go_simp
  try simp only [List.getElem_toArray, List.getElem_cons_zero, List.getElem_cons_succ, Act.put, List.setIfInBounds_toArray, List.set_cons_zero, List.set_cons_succ]
  refine wpAnyH_take (i := 9) (v := .int .i64 (s3 : Nat)) rfl (by kernel_rfl) (by kernel_rfl) (by kernel_rfl) (fun _ _ _ h => h) (Or.inl ⟨by rfl, ?_⟩) (by assumption) ?_
  · intro W hW
    go_simp
  try simp only [List.getElem_toArray, List.getElem_cons_zero, List.getElem_cons_succ, Act.put, List.setIfInBounds_toArray, List.set_cons_zero, List.set_cons_succ]
  refine wpAnyH_take (i := 10) (v := .slice A8 s1.length c8) rfl (by kernel_rfl) (by kernel_rfl) (by kernel_rfl) (fun _ _ _ h => h) (Or.inl ⟨by rfl, ?_⟩) (by assumption) ?_
  · intro W hW
    go_simp
  try simp only [List.getElem_toArray, List.getElem_cons_zero, List.getElem_cons_succ, Act.put, List.setIfInBounds_toArray, List.set_cons_zero, List.set_cons_succ]
  refine wpAnyH_take (i := 11) (v := .int .i64 (s2 : Nat)) rfl (by kernel_rfl) (by kernel_rfl) (by kernel_rfl) (fun _ _ _ h => h) (Or.inl ⟨by rfl, ?_⟩) (by assumption) ?_
  · intro W hW
    go_simp
  try simp only [List.getElem_toArray, List.getElem_cons_zero, List.getElem_cons_succ, Act.put, List.setIfInBounds_toArray, List.set_cons_zero, List.set_cons_succ]
  refine wpAnyH_take (i := 12) (v := .int .i64 (s3 : Nat)) rfl (by kernel_rfl) (by kernel_rfl) (by kernel_rfl) (fun _ _ _ h => h) (Or.inl ⟨by rfl, ?_⟩) (by assumption) ?_
  · intro W hW
    go_simp
  try simp only [List.getElem_toArray, List.getElem_cons_zero, List.getElem_cons_succ, Act.put, List.setIfInBounds_toArray, List.set_cons_zero, List.set_cons_succ]
  refine wpAnyH_done (by kernel_rfl) ?_ _
  clear hH3 i2 HRW HRW4 HR7 HX4
  by_cases h3 : r3 = 0
  · subst h3
    obtain ⟨hs3, hll, hper⟩ := HMO.out rfl
    subst hs3
    have HPER := Lib.hid hper
    have hl2 : ((r1.length : Int) != (s1.length : Int)) = false := by rw [hll]; simp
    have hrl := HRL.out
    clear hper
    go_wp2_with (fail)
    go_loopw [62] (fun t62 W => ∃ (i : Nat), i ≤ r1.length ∧ t62 = .int .i64 i ∧ Hid (Below w6.heap.size w6 W)) (fun t62 _ => r1.length - (intOf t62).toNat)
    case atStart => exact ⟨0, by omega, rfl, Lib.hid (Below.refl _ _)⟩
    case round =>
      obtain ⟨i, hi, rfl, HB⟩ := hrel
      have HBW := Lib.hid (HB1.out.trans ((HB6.out.trans (HB.out.mono HB6.out.size)).mono HB1.out.size))
      have j0' : (0 : Int) ≤ i := by omega
      have e1 : IntKind.i64.wrap ((i : Int) + 1) = (i : Int) + 1 := IntWalk.i64_in _ (by omega)
      by_cases hlt : i < r1.length
      · have j1 : (i : Int) < r1.length := by omega
        have hlt2 : i < s1.length := by omega
        have j2 : (i : Int) < s1.length := by omega
        obtain ⟨ad7, rfl, u0, u1⟩ := chc_at (HR9.out.below HB.out) hlt
        obtain ⟨ad8, rfl, v0, v1⟩ := chc_at (HR8.out.below HB.out) hlt2
        have hxx := (HB.out.block _ HLT6.out).trans HX6.out
        have x0 := cell_of_row wr w2.heap.size 0 _ _ _ hxx
        have x1 := cell_of_row wr w2.heap.size 1 _ _ _ hxx
        have hpe := HPER.out i hlt hlt2
        generalize r1[i] = y at *
        generalize s1[i] = z at *
        by_cases hyp : y.path = x.path
        · rw [if_pos hyp] at hpe
          have hq : (y.path != x.path) = false := by rw [hyp]; simp
          rw [hyp] at u0
          clear hq
          by_cases h4 : x.act = 4
          · rw [if_pos h4] at hpe
            rw [h4] at x1
            rcases hpe with h | h
            · rw [h] at u1
              clear hxx hyp h4 h
              go_wp2_with (fail)
              go_quiet (fail)
              go_wp2_with (fail)
              go_quiet (fail)
              go_wp2_with (fail)
              go_roundw
              case rel => exact ⟨i + 1, by omega, by go_num, Lib.hid (below_drewN HB.out _)⟩
              case measure => simp [intOf]; omega
            · rw [h] at u1
              clear hxx hyp h4 h
              go_wp2_with (fail)
              go_quiet (fail)
              go_wp2_with (fail)
              go_quiet (fail)
              go_wp2_with (fail)
              go_roundw
              case rel => exact ⟨i + 1, by omega, by go_num, Lib.hid (below_drewN HB.out _)⟩
              case measure => simp [intOf]; omega
          · rw [if_neg h4] at hpe
            rw [hpe] at u1
            have h4a : (x.act != 4) = true := bne_iff_ne.2 h4
            have h4b : (x.act == 4) = false := beq_eq_false_iff_ne.2 h4
            clear hxx hyp h4 hpe
            go_wp2_with (fail)
            go_quiet (fail)
            go_wp2_with (fail)
            go_quiet (fail)
            go_wp2_with (fail)
            go_roundw
            case rel => exact ⟨i + 1, by omega, by go_num, Lib.hid (below_drewN HB.out _)⟩
            case measure => simp [intOf]; omega
        · rw [if_neg hyp] at hpe
          subst hpe
          have hq : (y.path == x.path) = false := beq_eq_false_iff_ne.2 hyp
          clear hxx hyp
          go_wp2_with (fail)
          go_quiet (fail)
          go_wp2_with (fail)
          go_quiet (fail)
          go_wp2_with (fail)
          go_roundw
          case rel => exact ⟨i + 1, by omega, by go_num, Lib.hid (below_drewN HB.out _)⟩
          case measure => simp [intOf]; omega
      · have j1 : ¬ (i : Int) < r1.length := by omega
        go_wp2_with (fail)
        go_ret
        exact ⟨rfl, HBW.out⟩
  · have hr1 := HML.out h3
    subst hr1
    have h3' : ((r3 : Int) != 0) = true := by rw [bne_iff_ne]; omega
    clear h3
    go_wp2_with (fail)
    go_ret
    exact ⟨rfl, HB1.out.trans (HB6.out.mono HB1.out.size)⟩

theorem sum_memC {α : Type} (l : List α) (f : α → Nat) : ∀ x ∈ l, f x ≤ (l.map f).sum := by
  induction l with
  | nil => intro x hx; cases hx
  | cons y l ih =>
    intro x hx
    simp only [List.map_cons, List.sum_cons]
    rcases List.mem_cons.1 hx with rfl | hx
    · omega
    · have := ih x hx; omega

open Go.ChangeShapes Go.WideShapes Go.ChangeAt in
set_option maxRecDepth 100000 in
/-- What the walk gives, for every argument. -/
theorem PlanChoices_contract (H : Type) (enc : TypeId × Value → H) (W : World) (base : Nat) (args : Array Value) (ds gs : List (DataW H)) (before : List MemPlace)
    (hval : ∀ (j : Nat) t v, Tryd.f5.params[j]? = some t → args[j]? = some v → Value.okWide Tryd.prog W .any base t v)
    (hW : DataW.Whole enc Tryd.prog Tryd.f5.params.toList Rows.planChoicesSpec.vars false W args.toList ds gs before) (hL : laidMetH Tryd.prog Rows.planChoicesRow.laid W) (hS : W.ShapedOpen Tryd.prog) (hk : Rows.uptoSmall H (ds ++ gs) = true) :
    Calls Tryd.prog 5 args W fun e W' => ∃ v, e = .returned v ∧ Rows.planChoicesSpec.post enc Tryd.prog Tryd.f5 false true false false W args v W' := by
  have hW' := hW
  obtain ⟨p, q, hA0, hV, rfl, hfz, hnd⟩ := hW
  have hA : DataW.TrodAll enc Tryd.prog W 0 (fun _ => true) true Tryd.f5.params.toList args.toList ds p := hA0
  rw [Tryd.params5] at hA hval
  obtain ⟨v0, vs0, d0, ds0, p0, q0, hargs, rfl, rfl, h0, r0⟩ := trodAll_cons hA
  obtain ⟨v1, vs1, d1, ds1, p1, q1, rfl, rfl, rfl, h1, r1⟩ := trodAll_cons r0
  obtain ⟨v2, vs2, d2, ds2, p2, q2, rfl, rfl, rfl, h2, r2⟩ := trodAll_cons r1
  obtain ⟨rfl, rfl, rfl⟩ := trodAll_nil r2
  obtain rfl : args = #[v0, v1, v2] := by cases args; simp_all
  obtain ⟨rfl, rfl⟩ := trodVars_none hV
  obtain ⟨A0, c0, x0, rfl, hc0, hm0, ks0, kd0, kw0⟩ := open_items (hval 0 22 v0 rfl rfl) h0
  obtain ⟨pA1, pn1, pc1, qA1, qn1, qc1, rA1, rc1, p1, f1, rfl, hc1, hm1, ks1, kp1, kf1, kw1⟩ := open_prof (hval 1 26 v1 rfl rfl) h1
  obtain ⟨A2, c2, x2, rfl, hc2, hm2, ks2, kd2, kw2⟩ := open_choices (hval 2 27 v2 rfl rfl) h2
  clear hA0
  have hbulk := bulk_bound hk
  simp only [List.cons_append, List.nil_append, List.append_nil, Rows.uptoBulkAll] at hbulk
  obtain ⟨m, hm⟩ := laid_of hL hS
  have hsl := sum_ge x0 (fun o => o.path.length + 1) (by simp)
  have hsc := sum_ge x2 (fun o => o.path.length + 1) (by simp)
  have hsm := sum_ge p1.merge (fun o => o.name.length + o.pat.length + 1) (by simp)
  refine (PlanChoices_any x0 A0 c0 pA1 pn1 pc1 qA1 qn1 qc1 rA1 rc1 p1 f1 x2 A2 c2 m W hm ks1 (by omega) ks0 ks2 (by omega) (by omega) hc2 (fun x hx => ?_) (fun x hx => ?_)).mono ?_
  · have := sum_memC x0 (fun o => o.path.length + 1) x hx
    omega
  · have := sum_memC x2 (fun o => o.path.length + 1) x hx
    omega
  exact fun e W' ⟨he, hb⟩ => ⟨_, he, law_post rfl hW' rfl (by kernel_rfl) Tryd.underlying4 (by kernel_rfl) laidOut hb⟩

open Go.ChangeShapes Go.WideShapes Go.ChangeAt in
theorem PlanChoices_met (os : Os) : laidMet Tryd.prog Rows.planChoicesUptoRow.laid ((laidWorld os).forCall (fun _ _ => 0) ⟨#[], #[.slice none 0 0, .agg #[.slice none 0 0, .slice none 0 0, .slice none 0 0, .int .i64 0, .int .i64 0, .bool false, .bool false], .slice none 0 0], []⟩).memory :=
  laidMet_of_run' 8 (by kernel_rfl) (by kernel_rfl)
open Go.ChangeShapes Go.WideShapes Go.ChangeAt in
theorem PlanChoices_reads (os : Os) {H : Type} (enc : TypeId × Value → H) : ∃ places, DataW.whole enc Tryd.prog ((laidWorld os).forCall (fun _ _ => 0) ⟨#[], #[.slice none 0 0, .agg #[.slice none 0 0, .slice none 0 0, .slice none 0 0, .int .i64 0, .int .i64 0, .bool false, .bool false], .slice none 0 0], []⟩).memory Tryd.f5.params.toList Rows.planChoicesSpec.vars false #[.slice none 0 0, .agg #[.slice none 0 0, .slice none 0 0, .slice none 0 0, .int .i64 0, .int .i64 0, .bool false, .bool false], .slice none 0 0].toList 8 = some ([.nil, .agg [.nil, .nil, .nil, .lit (.int .i64 0), .lit (.int .i64 0), .lit (.bool false), .lit (.bool false)], .nil], [], places) :=
  ⟨[], by kernel_rfl⟩

open Go.ChangeShapes Go.WideShapes Go.ChangeAt in
set_option maxRecDepth 100000 in
theorem PlanChoices_lifted (os : Os) (started : os.Started) (H : Type) (enc : TypeId × Value → H) (F : Stop.Interp) :
    ReturnsInHanded {} Tryd.checked os 5 .any ((Rows.OpenSpec.upto Rows.planChoicesSpec).preRow enc Tryd.prog Tryd.f5 Rows.planChoicesUptoRow.domain false Rows.planChoicesUptoRow.laid) (((Rows.OpenSpec.upto Rows.planChoicesSpec).at F).post enc Tryd.prog Tryd.f5 false true false false) := by
  obtain ⟨places, hx⟩ := PlanChoices_reads os enc
  refine returnsInHanded_of_row (C := Tryd.checked) (s := Rows.OpenSpec.upto Rows.planChoicesSpec) own started (by kernel_rfl) Tryd.func5
    (witness_row_at (enc := enc) (C := Tryd.checked) false (laidWorld os) #[.slice none 0 0, .agg #[.slice none 0 0, .slice none 0 0, .slice none 0 0, .int .i64 0, .int .i64 0, .bool false, .bool false], .slice none 0 0] rfl (by kernel_rfl) (by kernel_rfl) (by kernel_rfl)
      (OpenSpec.preRow_of_cond 8 hx (by kernel_rfl) (fun k hk => by cases hk; kernel_rfl) (by kernel_rfl) (PlanChoices_met os))) ?_
  intro W base args ds gs before hval hW _ hcond _ hL hS _
  exact PlanChoices_contract H enc W base args ds gs before hval hW hL hS (hcond _ rfl)

theorem PlanChoices_said : Rows.PlanChoicesUptoSaid :=
  OpenClaim.holds_of_cond 5 Tryd.f5 rfl rfl rfl rfl rfl rfl rfl ⟨rfl, rfl, rfl, rfl, rfl⟩ rfl rfl rfl rfl rfl (by kernel_rfl) Tryd.func5 (by kernel_rfl)
    (of_decide_eq_true (by kernel_rfl)) (by unfold Func.isWrapper; first | (rw [if_pos (by decide +kernel)]; kernel_rfl) | (rw [if_neg (by decide +kernel)]; exact ⟨rfl, rfl⟩))
    (fun os started H enc _ F => by rw [OpenClaim.pre_eq_preRow]; exact PlanChoices_lifted os started H enc F)

theorem PlanChoices_holds : Rows.PlanChoicesUptoCardSaid :=
  Claim7.holds_tied_plain_at .later [] _ _ _ _ PlanChoices_said (fun _ h => by cases h) (by kernel_rfl) (fun _ h => by cases h) planChoicesUpto_row_tie rfl ⟨rfl, rfl⟩ (by kernel_rfl) rfl
    (card_plain (f0 := 5) (fn0 := Tryd.f5) (by kernel_rfl) Tryd.func5 (by kernel_rfl) (by kernel_rfl)) (by kernel_rfl)
end Go.Proofs.YtjhjepkmcbjgoaaDoor
end
