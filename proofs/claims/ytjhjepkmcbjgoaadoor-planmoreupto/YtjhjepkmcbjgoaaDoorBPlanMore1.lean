/- hawserlaw13.PlanMore: an item more changes nothing for the others. The condition: the arguments' bulk is what a machine can hold (Upto). -/
import Derived.Test.YtjhjepkmcbjgoaaDoorBPlanBase110
import Derived.Test.YtjhjepkmcbjgoaaDoorBPlanBase25
set_option linter.unusedSimpArgs false
set_option linter.unusedVariables false

section
set_option linter.unusedVariables false
namespace Go.Proofs.YtjhjepkmcbjgoaaDoor
open Go.RowKit Plain

set_option maxRecDepth 100000 in
set_option maxHeartbeats 8000000 in
theorem PlanMore_any (items : List Itm) (A : Option Addr) (ca : Nat) (A0 : Option Addr) (n0 c0 : Nat) (A1 : Option Addr) (n1 c1 : Nat) (A2 : Option Addr) (c2 : Nat) (p : Prf) (fast : Bool) (x : Itm) (m : Int) (w : World) (hL : Laid w m) (hR : IsRows w 2 A2 (p.merge.map prgV)) (hlen : p.merge.length ≤ 1048576)
    (hI : IsRows w 2 A (items.map itmV)) (hil : items.length ≤ 1048576) (hca : items.length ≤ ca) (his : ∀ x ∈ items, x.path.length ≤ 1048576) (hxs : x.path.length ≤ 1048576) :
    Calls Tryd.prog 7 #[.slice A items.length ca, profV A0 n0 c0 A1 n1 c1 A2 c2 p fast, .agg #[.string ⟨x.path.toArray⟩, .int .i64 x.what]] w (Ret w (.bool true)) := by
  obtain ⟨j0, hj, hy0, hy1, hy2⟩ := info_parts info_item
  have HJ0 := Lib.hid hj
  have HAW := Lib.hid (fun W (h : Below w.heap.size w W) => awake_any m W (hL.below h))
  have HMK := Lib.hid (fun (l : List Itm) A5 c5 W (h : Below w.heap.size w W) (h1 : IsRows W 2 A5 (l.map itmV)) (h2 : l.length ≤ 1048577) (h3 : ∀ x ∈ l, x.path.length ≤ 1048576) => Make_any l A5 c5 A0 n0 c0 A1 n1 c1 A2 c2 p fast [] none 0 m W (hL.below h) (hR.below h) (by omega) h1 (fun k h => absurd h (by simp)) (by omega) (by simp) (fun x hx => by have := h3 x hx; omega) (by simp))
  have HRI := Lib.hid (fun W (h : Below w.heap.size w W) => hI.below h)
  have HIS := Lib.hid his
  have HXS := Lib.hid (show ∀ y ∈ items ++ [x], y.path.length ≤ 1048576 from fun y hy => by
    rw [List.mem_append, List.mem_singleton] at hy
    rcases hy with hy | rfl
    · exact his y hy
    · exact hxs)
  obtain ⟨P, hP⟩ : ∃ P, profV A0 n0 c0 A1 n1 c1 A2 c2 p fast = P := ⟨_, rfl⟩
  have HPE := Lib.hid (show P = .agg #[.slice A0 n0 c0, .slice A1 n1 c1, .slice A2 p.merge.length c2, .int .i64 p.prefer, .int .i64 p.force, .bool p.batch, .bool fast] from hP.symm)
  rw [hP] at HMK ⊢
  obtain ⟨w1, hw1⟩ : ∃ w1, (w.alloc (.cells #[.slice A0 n0 c0, .slice A1 n1 c1, .slice A2 p.merge.length c2, .int .i64 p.prefer, .int .i64 p.force, .bool p.batch, .bool fast] 26)).alloc (.cells #[.string ⟨x.path.toArray⟩, .int .i64 x.what] 38) = w1 := ⟨_, rfl⟩
  have HW1 := Lib.hid hw1
  have HB1 := Lib.hid (show Below w.heap.size w w1 by rw [← hw1]; exact ((Below.refl _ _).alloc (Nat.le_refl _) _).alloc (by simp) _)
  have HP1 := Lib.hid (show w1.heap[w.heap.size]? = some (.cells #[.slice A0 n0 c0, .slice A1 n1 c1, .slice A2 p.merge.length c2, .int .i64 p.prefer, .int .i64 p.force, .bool p.batch, .bool fast] 26 (0, 0)) by rw [← hw1]; exact heap_alloc2_old _ _ _)
  have HX1 := Lib.hid (show w1.heap[w.heap.size + 1]? = some (.cells #[.string ⟨x.path.toArray⟩, .int .i64 x.what] 38 (0, 0)) by rw [← hw1]; exact heap_alloc2_new _ _ _)
  have HLT1 := Lib.hid (show w.heap.size + 1 < w1.heap.size by rw [← hw1]; simp)
  have HPB := Lib.hid (show ∀ W, Below w1.heap.size w1 W → W.heap[w.heap.size]? = some (.cells #[.slice A0 n0 c0, .slice A1 n1 c1, .slice A2 p.merge.length c2, .int .i64 p.prefer, .int .i64 p.force, .bool p.batch, .bool fast] 26 (0, 0)) ∧ W.heap[w.heap.size + 1]? = some (.cells #[.string ⟨x.path.toArray⟩, .int .i64 x.what] 38 (0, 0)) from fun W h => ⟨(h.block _ (by have := HLT1.out; omega)).trans HP1.out, (h.block _ HLT1.out).trans HX1.out⟩)
  clear hj hL hR hI his hxs hP hw1
  have HMO := Lib.hid (make_more items p x)
  have HLE := Lib.hid (make_nil_err items p)
  have HML := Lib.hid (fun h => make_len (items := items) (p := p) (ch := []) h)
  have HLX := Lib.hid (show itemBad (items ++ [x]) items.length = ((lookI items x.path).isSome || decide (x.what < 1) || decide (4 < x.what)) by rw [itemBad_at (by simp)]; simp)
  have HOX := Lib.hid (show outP [x] p [] = if x.what = 1 then [] else [⟨x.path, actP x.what (progP p.merge x.path) p (lookC [] x.path)⟩] by rw [outP_cons, outP_nil])
  obtain ⟨r1, r2, r3, hr⟩ : ∃ r1 r2 r3, makeP items p [] = (r1, r2, r3) := ⟨_, _, _, rfl⟩
  obtain ⟨s1, s2, s3, hs⟩ : ∃ s1 s2 s3, makeP (items ++ [x]) p [] = (s1, s2, s3) := ⟨_, _, _, rfl⟩
  have HRL := Lib.hid (show r1.length ≤ 1048576 by
    have h1 : (makeP items p []).1.length ≤ items.length := by
      unfold makeP
      split
      · simp
      · exact outP_length _ _ _
    rw [hr] at h1; simp only at h1; omega)
  have hm1 := HMK.out items A ca
  have hm2 := HMK.out (items ++ [x])
  rw [hr] at hm1
  rw [hs] at hm2
  have HM1 := Lib.hid (fun W h h1 => hm1 W h h1 (by omega) HIS.out)
  have HM2 := Lib.hid (fun A5 c5 W h h1 => hm2 A5 c5 W h h1 (by simp; omega) HXS.out)
  have HR := Lib.hid hr
  have HS := Lib.hid hs
  clear hm1 hm2 hr hs HMK
  rw [HPE.out]
  go_enter Tryd.func7, Tryd.ntmps7
  go_wp2_with (fail)
  rw [HW1.out]
  refine (HAW.out _ HB1.out).mono ?_
  rintro e w2 ⟨rfl, hb2⟩
  have HB2 := Lib.hid hb2
  have h2 := (HPB.out w2 hb2).1
  have t0 := cell_of_row w2 w.heap.size 0 _ _ _ h2
  have t1 := cell_of_row w2 w.heap.size 1 _ _ _ h2
  have t2 := cell_of_row w2 w.heap.size 2 _ _ _ h2
  have t3 := cell_of_row w2 w.heap.size 3 _ _ _ h2
  have t4 := cell_of_row w2 w.heap.size 4 _ _ _ h2
  have t5 := cell_of_row w2 w.heap.size 5 _ _ _ h2
  have t6 := cell_of_row w2 w.heap.size 6 _ _ _ h2
  have HM3 := Lib.hid (HM1.out w2 (HB1.out.trans (hb2.mono HB1.out.size)) (HRI.out _ (HB1.out.trans (hb2.mono HB1.out.size))))
  clear hb2 h2
  go_wp2_with (fail)
  clear t0 t1 t2 t3 t4 t5 t6
  rw [← HPE.out]
  refine HM3.out.mono ?_
  intro e w3 hp
  obtain ⟨A7, c7, rfl, hr7, hb7⟩ := make_post hp
  have HB3 := Lib.hid (HB2.out.trans (hb7.mono HB2.out.size))
  have HR7 := Lib.hid hr7
  clear hp hr7 hb7 HM3
  rw [HPE.out]
  go_wp2_with (fail)
  have HBD := Lib.hid (show Below w1.heap.size w1 w3.drew from HB3.out.drew)
  refine wp_region_held_drew (S := fun W => W.heap[w.heap.size]? = some (.cells #[.slice A0 n0 c0, .slice A1 n1 c1, .slice A2 p.merge.length c2, .int .i64 p.prefer, .int .i64 p.force, .bool p.batch, .bool fast] 26 (0, 0)) ∧ W.heap[w.heap.size + 1]? = some (.cells #[.string ⟨x.path.toArray⟩, .int .i64 x.what] 38 (0, 0))) (by kernel_rfl) (HPB.out _ HBD.out) (fun hH => ?_)
  change wpAnyH _ _ _ _ _ (14 + 1) #[false, false, false, false, false, false, false, false, false, false, false, false, false, false, false] _ _
  refine wpAnyH_take (i := 1) (v := .slice A items.length ca) rfl (by kernel_rfl) (by kernel_rfl) (by kernel_rfl) (fun _ _ _ h => h) (Or.inl ⟨by rfl, ?_⟩) (by assumption) ?_
  · intro W hW
    obtain ⟨g1, g2⟩ := hW
    go_simp
  try simp only [List.getElem_toArray, List.getElem_cons_zero, List.getElem_cons_succ, Act.put, List.setIfInBounds_toArray, List.set_cons_zero, List.set_cons_succ]
  refine wpAnyH_take (i := 3) (v := .agg #[.string ⟨x.path.toArray⟩, .int .i64 x.what]) rfl (by kernel_rfl) (by kernel_rfl) (by kernel_rfl) (fun _ _ _ h => h) (Or.inl ⟨by rfl, ?_⟩) (by assumption) ?_
  · intro W hW
    obtain ⟨g1, g2⟩ := hW
    have z0 := cell_of_row W (w.heap.size + 1) 0 _ _ _ g2
    have z1 := cell_of_row W (w.heap.size + 1) 1 _ _ _ g2
    go_simp
  try simp only [List.getElem_toArray, List.getElem_cons_zero, List.getElem_cons_succ, Act.put, List.setIfInBounds_toArray, List.set_cons_zero, List.set_cons_succ]
  refine wpAnyH_take (i := 6) (v := .agg #[.slice A0 n0 c0, .slice A1 n1 c1, .slice A2 p.merge.length c2, .int .i64 p.prefer, .int .i64 p.force, .bool p.batch, .bool fast]) rfl (by kernel_rfl) (by kernel_rfl) (by kernel_rfl) (fun _ _ _ h => h) (Or.inl ⟨by rfl, ?_⟩) (by assumption) ?_
  · intro W hW
    obtain ⟨g1, g2⟩ := hW
    have z0 := cell_of_row W w.heap.size 0 _ _ _ g1
    have z1 := cell_of_row W w.heap.size 1 _ _ _ g1
    have z2 := cell_of_row W w.heap.size 2 _ _ _ g1
    have z3 := cell_of_row W w.heap.size 3 _ _ _ g1
    have z4 := cell_of_row W w.heap.size 4 _ _ _ g1
    have z5 := cell_of_row W w.heap.size 5 _ _ _ g1
    have z6 := cell_of_row W w.heap.size 6 _ _ _ g1
    go_simp
  try simp only [List.getElem_toArray, List.getElem_cons_zero, List.getElem_cons_succ, Act.put, List.setIfInBounds_toArray, List.set_cons_zero, List.set_cons_succ]
  have hX0 : Below w3.heap.size w3 w3.drew := (Below.refl w3.heap.size w3).drew
  generalize w3.drew = X0 at *
  refine wpAnyH_ready (rs := [0, 4]) (by kernel_rfl) (by simp) ?_
  refine AllReadyH.cons rfl (fun K hK => ?_) (AllReadyH.cons rfl (fun K hK => ?_) AllReadyH.nil)
  · skip
    go_simp
    have hE := own_base (empty_own1 X0 38 2) hX0.size
    have hX1 := hX0.alloc hX0.size (Obj.cells #[] 38)
    generalize hbo : X0.heap.size = bo at *
    generalize X0.alloc (Obj.cells #[] 38) = X1 at *
    refine hK.out _ _ (HPB.out _ (HB3.out.trans (hX1.mono HB3.out.size))) (fun hH => ?_)
    clear hK K
    refine wpAnyH_ready (rs := [2, 4]) (by kernel_rfl) (by simp) ?_
    refine AllReadyH.cons rfl (fun K hK => ?_) (AllReadyH.cons rfl (fun K hK => ?_) AllReadyH.nil)
    · skip
      have hRD := rows_reads itmV_length (HRI.out X1 (HB1.out.trans ((HB3.out.trans (hX1.mono HB3.out.size)).mono HB1.out.size)))
      simp only [List.getElem_toArray, List.getElem_cons_succ, List.getElem_cons_zero]
      rw [if_pos (by rfl)]
      refine wp_append_slice _ _ 22 rfl w3.heap.size 38 j0 _ 2 24 Tryd.underlying22 HJ0.out hy0 hy1 hy2 rfl (by decide) (some ⟨bo, 0, none⟩) 0 0 [] rfl hE A items.length ca (rowsE itmV items) rfl hRD (rowsE_oneCell itmV_oneCell items) (by unfold maxLen; omega) (by omega) hX1.size ?_
      intro A5 c5 X2 hE5 hg
      have hX2 := hX1.grown hg hX1.size (fun k hk => (hE.lt k hk).1)
      clear hE hg hRD
      try simp only [Nat.zero_add, List.nil_append] at hE5
      try simp only [Nat.zero_add, List.nil_append]
      have hE := hE5
      clear hE5
      refine hK.out _ _ (HPB.out _ (HB3.out.trans (hX2.mono HB3.out.size))) (fun hH => ?_)
      clear hK K
      refine wpAnyH_ready (rs := [4]) (by kernel_rfl) (by simp) ?_
      refine AllReadyH.cons rfl (fun K hK => ?_) AllReadyH.nil
      go_simp
      replace hE := hE.alloc (Obj.cells #[Value.string ⟨x.path.toArray⟩, Value.int .i64 x.what] 38)
      have hq := heap_alloc_new X2 (Obj.cells #[Value.string ⟨x.path.toArray⟩, Value.int .i64 x.what] 38)
      have hX3 := hX2.alloc hX2.size (Obj.cells #[Value.string ⟨x.path.toArray⟩, Value.int .i64 x.what] 38)
      generalize hbq : X2.heap.size = bq at *
      generalize X2.alloc (Obj.cells #[Value.string ⟨x.path.toArray⟩, Value.int .i64 x.what] 38) = X3 at *
      refine hK.out _ _ (HPB.out _ (HB3.out.trans (hX3.mono HB3.out.size))) (fun hH => ?_)
      clear hK K
      refine wpAnyH_ready (rs := [5]) (by kernel_rfl) (by simp) ?_
      refine AllReadyH.cons rfl (fun K hK => ?_) AllReadyH.nil
      have hRD := reads_row hq
      simp only [List.getElem_toArray, List.getElem_cons_succ, List.getElem_cons_zero]
      rw [if_pos (by rfl)]
      refine wp_append_slice _ _ 22 rfl w3.heap.size 38 j0 _ 2 24 Tryd.underlying22 HJ0.out hy0 hy1 hy2 rfl (by decide) A5 items.length c5 (rowsE itmV items) rfl hE (some ⟨bq, 0, none⟩) 1 1 (itmV x) rfl hRD (itmV_oneCell _) (by unfold maxLen; omega) (by omega) hX3.size ?_
      intro A6 c6 Y hE6 hg
      have hY := hX3.grown hg hX3.size (fun k hk => (hE.lt k hk).1)
      have hA6 : IsRows Y 2 A6 ((items ++ [x]).map itmV) := own_rows itmV_length (by rw [rowsE_append, rowsE_one]; exact hE6) (by simp)
      clear hE hg hRD hE6 hq
      refine hK.out _ _ (HPB.out _ (HB3.out.trans (hY.mono HB3.out.size))) (fun hH => ?_)
      clear hK K
      have hI6 := HM2.out A6 c6 Y (HB1.out.trans ((HB3.out.trans (hY.mono HB3.out.size)).mono HB1.out.size)) hA6
      rw [List.length_append, List.length_singleton, HPE.out] at hI6
      refine wpAnyH_ready (rs := [7]) (by kernel_rfl) (by simp) ?_
      refine AllReadyH.cons rfl (fun K hK => ?_) AllReadyH.nil
      go_simp
      refine hI6.mono ?_
      intro e w6 hp
      obtain ⟨A8, c8, rfl, hr8, hb8, hc8, hm8⟩ := make_post2 hp
      replace hc8 : s1.length ≤ c8 := hc8
      have hZ := hY.trans (hb8.mono hY.size)
      clear hp hI6
      refine hK.out _ _ (HPB.out _ (HB3.out.trans (hZ.mono HB3.out.size))) (fun hH => ?_)
      clear hK K
      refine wpAnyH_take (i := 8) (v := .tuple #[.slice A8 s1.length c8, .int .i64 (s2 : Nat), .int .i64 (s3 : Nat)]) rfl (by kernel_rfl) (by kernel_rfl) (by kernel_rfl) (fun _ _ _ h => h) (Or.inl ⟨by rfl, ?_⟩) (by assumption) ?_
      · intro W hW
        obtain ⟨g1, g2⟩ := hW
        go_simp
      try simp only [List.getElem_toArray, List.getElem_cons_zero, List.getElem_cons_succ, Act.put, List.setIfInBounds_toArray, List.set_cons_zero, List.set_cons_succ]
      refine wpAnyH_take (i := 9) (v := .slice A8 s1.length c8) rfl (by kernel_rfl) (by kernel_rfl) (by kernel_rfl) (fun _ _ _ h => h) (Or.inl ⟨by rfl, ?_⟩) (by assumption) ?_
      · intro W hW
        obtain ⟨g1, g2⟩ := hW
        go_simp
      try simp only [List.getElem_toArray, List.getElem_cons_zero, List.getElem_cons_succ, Act.put, List.setIfInBounds_toArray, List.set_cons_zero, List.set_cons_succ]
      refine wpAnyH_take (i := 10) (v := .int .i64 (s2 : Nat)) rfl (by kernel_rfl) (by kernel_rfl) (by kernel_rfl) (fun _ _ _ h => h) (Or.inl ⟨by rfl, ?_⟩) (by assumption) ?_
      · intro W hW
        obtain ⟨g1, g2⟩ := hW
        go_simp
      try simp only [List.getElem_toArray, List.getElem_cons_zero, List.getElem_cons_succ, Act.put, List.setIfInBounds_toArray, List.set_cons_zero, List.set_cons_succ]
      refine wpAnyH_take (i := 11) (v := .int .i64 (s3 : Nat)) rfl (by kernel_rfl) (by kernel_rfl) (by kernel_rfl) (fun _ _ _ h => h) (Or.inl ⟨by rfl, ?_⟩) (by assumption) ?_
      · intro W hW
        obtain ⟨g1, g2⟩ := hW
        go_simp
      try simp only [List.getElem_toArray, List.getElem_cons_zero, List.getElem_cons_succ, Act.put, List.setIfInBounds_toArray, List.set_cons_zero, List.set_cons_succ]
      refine wpAnyH_take (i := 12) (v := .slice A8 s1.length c8) rfl (by kernel_rfl) (by kernel_rfl) (by kernel_rfl) (fun _ _ _ h => h) (Or.inl ⟨by rfl, ?_⟩) (by assumption) ?_
      · intro W hW
        obtain ⟨g1, g2⟩ := hW
        go_simp
      try simp only [List.getElem_toArray, List.getElem_cons_zero, List.getElem_cons_succ, Act.put, List.setIfInBounds_toArray, List.set_cons_zero, List.set_cons_succ]
      refine wpAnyH_take (i := 13) (v := .int .i64 (s2 : Nat)) rfl (by kernel_rfl) (by kernel_rfl) (by kernel_rfl) (fun _ _ _ h => h) (Or.inl ⟨by rfl, ?_⟩) (by assumption) ?_
      · intro W hW
        obtain ⟨g1, g2⟩ := hW
        go_simp
      try simp only [List.getElem_toArray, List.getElem_cons_zero, List.getElem_cons_succ, Act.put, List.setIfInBounds_toArray, List.set_cons_zero, List.set_cons_succ]
      refine wpAnyH_take (i := 14) (v := .int .i64 (s3 : Nat)) rfl (by kernel_rfl) (by kernel_rfl) (by kernel_rfl) (fun _ _ _ h => h) (Or.inl ⟨by rfl, ?_⟩) (by assumption) ?_
      · intro W hW
        obtain ⟨g1, g2⟩ := hW
        go_simp
      try simp only [List.getElem_toArray, List.getElem_cons_zero, List.getElem_cons_succ, Act.put, List.setIfInBounds_toArray, List.set_cons_zero, List.set_cons_succ]
      refine wpAnyH_done (by kernel_rfl) ?_ _
      have HBZ := Lib.hid (HB3.out.trans (hZ.mono HB3.out.size))
      have HR9 := Lib.hid (HR7.out.below hZ)
      have HR8 := Lib.hid hr8
      have z1 := cell_of_row w6 (w.heap.size + 1) 1 _ _ _ (HPB.out w6 HBZ.out).2
      have HBW := Lib.hid (HB1.out.trans (HBZ.out.mono HB1.out.size))
      have hmo := HMO.out
      rw [HS.out, HR.out] at hmo
      have hle := HLE.out
      rw [HR.out] at hle
      have HRN := HRL.out
      clear hH hZ hY hr8 hb8 hA6 HBD
      by_cases h3 : r3 = 0
      · subst h3
        cases hb : itemBad (items ++ [x]) items.length with
        | true =>
          obtain ⟨hs1, hs2, hs3⟩ : s1 = [] ∧ s2 = items.length ∧ s3 = 91 := by simpa [hb] using hmo
          subst hs1 hs2 hs3
          clear hmo hb hle
          go_wp2_with (fail)
          go_ret
          exact ⟨by simp, HBW.out⟩
        | false =>
          obtain ⟨hs1, hs2, hs3⟩ : s1 = r1 ++ outP [x] p [] ∧ s2 = 0 ∧ s3 = 0 := by simpa [hb] using hmo
          rw [HOX.out] at hs1
          have c8' : (r1.length : Int) ≤ (c8 : Int) := by
            have : r1.length ≤ s1.length := by rw [hs1]; simp
            omega
          have l0 : (0 : Int) ≤ (r1.length : Int) := by omega
          have e1 : IntKind.i64.wrap ((r1.length : Int) + 1) = (r1.length : Int) + 1 := IntWalk.i64_in _ (by omega)
          by_cases hw : x.what = 1
          · rw [if_pos hw, List.append_nil] at hs1
            have hw' : (x.what != 1) = false := by rw [hw]; rfl
            subst hs1 hs2 hs3
            have HSM := Lib.hid (Same_ref s1 A8 A7 s1.length c8 c7 w6 HR8.out HR9.out (by omega) rfl)
            clear hmo hb hle hw
            go_wp2_with (fail)
            refine HSM.out.mono ?_
            rintro e w9 ⟨rfl, hb9⟩
            go_wp2_with (fail)
            go_ret
            exact ⟨by simp, HBW.out.trans (hb9.mono HBW.out.size)⟩
          · rw [if_neg hw] at hs1
            have hw' : (x.what != 1) = true := bne_iff_ne.2 hw
            have HR5 := HR8.out
            rw [hs1] at HR5
            have HSM := Lib.hid (Same_ref r1 A8 A7 r1.length c8 c7 w6 (rows_left HR5) HR9.out (by omega) rfl)
            have hls : s1.length = r1.length + 1 := by rw [hs1]; simp
            rw [hls]
            subst hs2 hs3
            clear hmo hb hle hw hs1 HR5 hls
            go_wp2_with (fail)
            refine HSM.out.mono ?_
            rintro e w9 ⟨rfl, hb9⟩
            go_wp2_with (fail)
            go_ret
            exact ⟨by simp, HBW.out.trans (hb9.mono HBW.out.size)⟩
      · have h91 : r3 = 91 := hle.resolve_left h3
        subst h91
        obtain ⟨hs1, hs2, hs3⟩ : s1 = r1 ∧ s2 = r2 ∧ s3 = 91 := by simpa using hmo
        subst hs1 hs2 hs3
        clear hmo hle h3
        go_wp2_with (fail)
        go_ret
        exact ⟨by simp, HBW.out⟩
    · skip
      go_simp
      have hlt9 : bo < X1.heap.size := (hE.lt _ rfl).2
      have hne : bo ≠ X1.heap.size := by omega
      replace hE := hE.alloc (Obj.cells #[Value.string ⟨x.path.toArray⟩, Value.int .i64 x.what] 38)
      have hq := heap_alloc_new X1 (Obj.cells #[Value.string ⟨x.path.toArray⟩, Value.int .i64 x.what] 38)
      have hX2 := hX1.alloc hX1.size (Obj.cells #[Value.string ⟨x.path.toArray⟩, Value.int .i64 x.what] 38)
      generalize hbq : X1.heap.size = bq at *
      generalize X1.alloc (Obj.cells #[Value.string ⟨x.path.toArray⟩, Value.int .i64 x.what] 38) = X2 at *
      refine hK.out _ _ (HPB.out _ (HB3.out.trans (hX2.mono HB3.out.size))) (fun hH => ?_)
      clear hK K
      refine wpAnyH_ready (rs := [2]) (by kernel_rfl) (by simp) ?_
      refine AllReadyH.cons rfl (fun K hK => ?_) AllReadyH.nil
      have hRD := rows_reads itmV_length (HRI.out X2 (HB1.out.trans ((HB3.out.trans (hX2.mono HB3.out.size)).mono HB1.out.size)))
      simp only [List.getElem_toArray, List.getElem_cons_succ, List.getElem_cons_zero]
      rw [if_pos (by rfl)]
      refine wp_append_slice _ _ 22 rfl w3.heap.size 38 j0 _ 2 24 Tryd.underlying22 HJ0.out hy0 hy1 hy2 rfl (by decide) (some ⟨bo, 0, none⟩) 0 0 [] rfl hE A items.length ca (rowsE itmV items) rfl hRD (rowsE_oneCell itmV_oneCell items) (by unfold maxLen; omega) (by omega) hX2.size ?_
      intro A5 c5 X3 hE5 hg
      have hX3 := hX2.grown hg hX2.size (fun k hk => (hE.lt k hk).1)
      replace hq := (hg.block _ (Array.getElem?_eq_some_iff.1 hq).1 (fun e => hne (by injection e with e; exact e.symm))).trans hq
      clear hE hg hRD
      try simp only [Nat.zero_add, List.nil_append] at hE5
      try simp only [Nat.zero_add, List.nil_append]
      have hE := hE5
      clear hE5
      refine hK.out _ _ (HPB.out _ (HB3.out.trans (hX3.mono HB3.out.size))) (fun hH => ?_)
      clear hK K
      refine wpAnyH_ready (rs := [5]) (by kernel_rfl) (by simp) ?_
      refine AllReadyH.cons rfl (fun K hK => ?_) AllReadyH.nil
      have hRD := reads_row hq
      simp only [List.getElem_toArray, List.getElem_cons_succ, List.getElem_cons_zero]
      rw [if_pos (by rfl)]
      refine wp_append_slice _ _ 22 rfl w3.heap.size 38 j0 _ 2 24 Tryd.underlying22 HJ0.out hy0 hy1 hy2 rfl (by decide) A5 items.length c5 (rowsE itmV items) rfl hE (some ⟨bq, 0, none⟩) 1 1 (itmV x) rfl hRD (itmV_oneCell _) (by unfold maxLen; omega) (by omega) hX3.size ?_
      intro A6 c6 Y hE6 hg
      have hY := hX3.grown hg hX3.size (fun k hk => (hE.lt k hk).1)
      have hA6 : IsRows Y 2 A6 ((items ++ [x]).map itmV) := own_rows itmV_length (by rw [rowsE_append, rowsE_one]; exact hE6) (by simp)
      clear hE hg hRD hE6 hq
      refine hK.out _ _ (HPB.out _ (HB3.out.trans (hY.mono HB3.out.size))) (fun hH => ?_)
      clear hK K
      have hI6 := HM2.out A6 c6 Y (HB1.out.trans ((HB3.out.trans (hY.mono HB3.out.size)).mono HB1.out.size)) hA6
      rw [List.length_append, List.length_singleton, HPE.out] at hI6
      refine wpAnyH_ready (rs := [7]) (by kernel_rfl) (by simp) ?_
      refine AllReadyH.cons rfl (fun K hK => ?_) AllReadyH.nil
      go_simp
      refine hI6.mono ?_
      intro e w6 hp
      obtain ⟨A8, c8, rfl, hr8, hb8, hc8, hm8⟩ := make_post2 hp
      replace hc8 : s1.length ≤ c8 := hc8
      have hZ := hY.trans (hb8.mono hY.size)
      clear hp hI6
      refine hK.out _ _ (HPB.out _ (HB3.out.trans (hZ.mono HB3.out.size))) (fun hH => ?_)
      clear hK K
      refine wpAnyH_take (i := 8) (v := .tuple #[.slice A8 s1.length c8, .int .i64 (s2 : Nat), .int .i64 (s3 : Nat)]) rfl (by kernel_rfl) (by kernel_rfl) (by kernel_rfl) (fun _ _ _ h => h) (Or.inl ⟨by rfl, ?_⟩) (by assumption) ?_
      · intro W hW
        obtain ⟨g1, g2⟩ := hW
        go_simp
      try simp only [List.getElem_toArray, List.getElem_cons_zero, List.getElem_cons_succ, Act.put, List.setIfInBounds_toArray, List.set_cons_zero, List.set_cons_succ]
      refine wpAnyH_take (i := 9) (v := .slice A8 s1.length c8) rfl (by kernel_rfl) (by kernel_rfl) (by kernel_rfl) (fun _ _ _ h => h) (Or.inl ⟨by rfl, ?_⟩) (by assumption) ?_
      · intro W hW
        obtain ⟨g1, g2⟩ := hW
        go_simp
      try simp only [List.getElem_toArray, List.getElem_cons_zero, List.getElem_cons_succ, Act.put, List.setIfInBounds_toArray, List.set_cons_zero, List.set_cons_succ]
      refine wpAnyH_take (i := 10) (v := .int .i64 (s2 : Nat)) rfl (by kernel_rfl) (by kernel_rfl) (by kernel_rfl) (fun _ _ _ h => h) (Or.inl ⟨by rfl, ?_⟩) (by assumption) ?_
      · intro W hW
        obtain ⟨g1, g2⟩ := hW
        go_simp
      try simp only [List.getElem_toArray, List.getElem_cons_zero, List.getElem_cons_succ, Act.put, List.setIfInBounds_toArray, List.set_cons_zero, List.set_cons_succ]
      refine wpAnyH_take (i := 11) (v := .int .i64 (s3 : Nat)) rfl (by kernel_rfl) (by kernel_rfl) (by kernel_rfl) (fun _ _ _ h => h) (Or.inl ⟨by rfl, ?_⟩) (by assumption) ?_
      · intro W hW
        obtain ⟨g1, g2⟩ := hW
        go_simp
      try simp only [List.getElem_toArray, List.getElem_cons_zero, List.getElem_cons_succ, Act.put, List.setIfInBounds_toArray, List.set_cons_zero, List.set_cons_succ]
      refine wpAnyH_take (i := 12) (v := .slice A8 s1.length c8) rfl (by kernel_rfl) (by kernel_rfl) (by kernel_rfl) (fun _ _ _ h => h) (Or.inl ⟨by rfl, ?_⟩) (by assumption) ?_
      · intro W hW
        obtain ⟨g1, g2⟩ := hW
        go_simp
      try simp only [List.getElem_toArray, List.getElem_cons_zero, List.getElem_cons_succ, Act.put, List.setIfInBounds_toArray, List.set_cons_zero, List.set_cons_succ]
      refine wpAnyH_take (i := 13) (v := .int .i64 (s2 : Nat)) rfl (by kernel_rfl) (by kernel_rfl) (by kernel_rfl) (fun _ _ _ h => h) (Or.inl ⟨by rfl, ?_⟩) (by assumption) ?_
      · intro W hW
        obtain ⟨g1, g2⟩ := hW
        go_simp
      try simp only [List.getElem_toArray, List.getElem_cons_zero, List.getElem_cons_succ, Act.put, List.setIfInBounds_toArray, List.set_cons_zero, List.set_cons_succ]
      refine wpAnyH_take (i := 14) (v := .int .i64 (s3 : Nat)) rfl (by kernel_rfl) (by kernel_rfl) (by kernel_rfl) (fun _ _ _ h => h) (Or.inl ⟨by rfl, ?_⟩) (by assumption) ?_
      · intro W hW
        obtain ⟨g1, g2⟩ := hW
        go_simp
      try simp only [List.getElem_toArray, List.getElem_cons_zero, List.getElem_cons_succ, Act.put, List.setIfInBounds_toArray, List.set_cons_zero, List.set_cons_succ]
      refine wpAnyH_done (by kernel_rfl) ?_ _
      have HBZ := Lib.hid (HB3.out.trans (hZ.mono HB3.out.size))
      have HR9 := Lib.hid (HR7.out.below hZ)
      have HR8 := Lib.hid hr8
      have z1 := cell_of_row w6 (w.heap.size + 1) 1 _ _ _ (HPB.out w6 HBZ.out).2
      have HBW := Lib.hid (HB1.out.trans (HBZ.out.mono HB1.out.size))
      have hmo := HMO.out
      rw [HS.out, HR.out] at hmo
      have hle := HLE.out
      rw [HR.out] at hle
      have HRN := HRL.out
      clear hH hZ hY hr8 hb8 hA6 HBD
      by_cases h3 : r3 = 0
      · subst h3
        cases hb : itemBad (items ++ [x]) items.length with
        | true =>
          obtain ⟨hs1, hs2, hs3⟩ : s1 = [] ∧ s2 = items.length ∧ s3 = 91 := by simpa [hb] using hmo
          subst hs1 hs2 hs3
          clear hmo hb hle
          go_wp2_with (fail)
          go_ret
          exact ⟨by simp, HBW.out⟩
        | false =>
          obtain ⟨hs1, hs2, hs3⟩ : s1 = r1 ++ outP [x] p [] ∧ s2 = 0 ∧ s3 = 0 := by simpa [hb] using hmo
          rw [HOX.out] at hs1
          have c8' : (r1.length : Int) ≤ (c8 : Int) := by
            have : r1.length ≤ s1.length := by rw [hs1]; simp
            omega
          have l0 : (0 : Int) ≤ (r1.length : Int) := by omega
          have e1 : IntKind.i64.wrap ((r1.length : Int) + 1) = (r1.length : Int) + 1 := IntWalk.i64_in _ (by omega)
          by_cases hw : x.what = 1
          · rw [if_pos hw, List.append_nil] at hs1
            have hw' : (x.what != 1) = false := by rw [hw]; rfl
            subst hs1 hs2 hs3
            have HSM := Lib.hid (Same_ref s1 A8 A7 s1.length c8 c7 w6 HR8.out HR9.out (by omega) rfl)
            clear hmo hb hle hw
            go_wp2_with (fail)
            refine HSM.out.mono ?_
            rintro e w9 ⟨rfl, hb9⟩
            go_wp2_with (fail)
            go_ret
            exact ⟨by simp, HBW.out.trans (hb9.mono HBW.out.size)⟩
          · rw [if_neg hw] at hs1
            have hw' : (x.what != 1) = true := bne_iff_ne.2 hw
            have HR5 := HR8.out
            rw [hs1] at HR5
            have HSM := Lib.hid (Same_ref r1 A8 A7 r1.length c8 c7 w6 (rows_left HR5) HR9.out (by omega) rfl)
            have hls : s1.length = r1.length + 1 := by rw [hs1]; simp
            rw [hls]
            subst hs2 hs3
            clear hmo hb hle hw hs1 HR5 hls
            go_wp2_with (fail)
            refine HSM.out.mono ?_
            rintro e w9 ⟨rfl, hb9⟩
            go_wp2_with (fail)
            go_ret
            exact ⟨by simp, HBW.out.trans (hb9.mono HBW.out.size)⟩
      · have h91 : r3 = 91 := hle.resolve_left h3
        subst h91
        obtain ⟨hs1, hs2, hs3⟩ : s1 = r1 ∧ s2 = r2 ∧ s3 = 91 := by simpa using hmo
        subst hs1 hs2 hs3
        clear hmo hle h3
        go_wp2_with (fail)
        go_ret
        exact ⟨by simp, HBW.out⟩
  · skip
    go_simp
    have hq := heap_alloc_new X0 (Obj.cells #[Value.string ⟨x.path.toArray⟩, Value.int .i64 x.what] 38)
    have hX1 := hX0.alloc hX0.size (Obj.cells #[Value.string ⟨x.path.toArray⟩, Value.int .i64 x.what] 38)
    generalize hbq : X0.heap.size = bq at *
    generalize X0.alloc (Obj.cells #[Value.string ⟨x.path.toArray⟩, Value.int .i64 x.what] 38) = X1 at *
    refine hK.out _ _ (HPB.out _ (HB3.out.trans (hX1.mono HB3.out.size))) (fun hH => ?_)
    clear hK K
    refine wpAnyH_ready (rs := [0]) (by kernel_rfl) (by simp) ?_
    refine AllReadyH.cons rfl (fun K hK => ?_) AllReadyH.nil
    go_simp
    have hE := own_base (empty_own1 X1 38 2) hX1.size
    have hX2 := hX1.alloc hX1.size (Obj.cells #[] 38)
    have hne : X1.heap.size ≠ bq := by have := (Array.getElem?_eq_some_iff.1 hq).1; omega
    replace hq := (heap_alloc_old X1 (Obj.cells #[] 38) (Array.getElem?_eq_some_iff.1 hq).1).trans hq
    generalize hbo : X1.heap.size = bo at *
    generalize X1.alloc (Obj.cells #[] 38) = X2 at *
    refine hK.out _ _ (HPB.out _ (HB3.out.trans (hX2.mono HB3.out.size))) (fun hH => ?_)
    clear hK K
    refine wpAnyH_ready (rs := [2]) (by kernel_rfl) (by simp) ?_
    refine AllReadyH.cons rfl (fun K hK => ?_) AllReadyH.nil
    have hRD := rows_reads itmV_length (HRI.out X2 (HB1.out.trans ((HB3.out.trans (hX2.mono HB3.out.size)).mono HB1.out.size)))
    simp only [List.getElem_toArray, List.getElem_cons_succ, List.getElem_cons_zero]
    rw [if_pos (by rfl)]
    refine wp_append_slice _ _ 22 rfl w3.heap.size 38 j0 _ 2 24 Tryd.underlying22 HJ0.out hy0 hy1 hy2 rfl (by decide) (some ⟨bo, 0, none⟩) 0 0 [] rfl hE A items.length ca (rowsE itmV items) rfl hRD (rowsE_oneCell itmV_oneCell items) (by unfold maxLen; omega) (by omega) hX2.size ?_
    intro A5 c5 X3 hE5 hg
    have hX3 := hX2.grown hg hX2.size (fun k hk => (hE.lt k hk).1)
    replace hq := (hg.block _ (Array.getElem?_eq_some_iff.1 hq).1 (fun e => hne (by injection e with e; exact e.symm))).trans hq
    clear hE hg hRD
    try simp only [Nat.zero_add, List.nil_append] at hE5
    try simp only [Nat.zero_add, List.nil_append]
    have hE := hE5
    clear hE5
    refine hK.out _ _ (HPB.out _ (HB3.out.trans (hX3.mono HB3.out.size))) (fun hH => ?_)
    clear hK K
    refine wpAnyH_ready (rs := [5]) (by kernel_rfl) (by simp) ?_
    refine AllReadyH.cons rfl (fun K hK => ?_) AllReadyH.nil
    have hRD := reads_row hq
    simp only [List.getElem_toArray, List.getElem_cons_succ, List.getElem_cons_zero]
    rw [if_pos (by rfl)]
    refine wp_append_slice _ _ 22 rfl w3.heap.size 38 j0 _ 2 24 Tryd.underlying22 HJ0.out hy0 hy1 hy2 rfl (by decide) A5 items.length c5 (rowsE itmV items) rfl hE (some ⟨bq, 0, none⟩) 1 1 (itmV x) rfl hRD (itmV_oneCell _) (by unfold maxLen; omega) (by omega) hX3.size ?_
    intro A6 c6 Y hE6 hg
    have hY := hX3.grown hg hX3.size (fun k hk => (hE.lt k hk).1)
    have hA6 : IsRows Y 2 A6 ((items ++ [x]).map itmV) := own_rows itmV_length (by rw [rowsE_append, rowsE_one]; exact hE6) (by simp)
    clear hE hg hRD hE6 hq
    refine hK.out _ _ (HPB.out _ (HB3.out.trans (hY.mono HB3.out.size))) (fun hH => ?_)
    clear hK K
    have hI6 := HM2.out A6 c6 Y (HB1.out.trans ((HB3.out.trans (hY.mono HB3.out.size)).mono HB1.out.size)) hA6
    rw [List.length_append, List.length_singleton, HPE.out] at hI6
    refine wpAnyH_ready (rs := [7]) (by kernel_rfl) (by simp) ?_
    refine AllReadyH.cons rfl (fun K hK => ?_) AllReadyH.nil
    go_simp
    refine hI6.mono ?_
    intro e w6 hp
    obtain ⟨A8, c8, rfl, hr8, hb8, hc8, hm8⟩ := make_post2 hp
    replace hc8 : s1.length ≤ c8 := hc8
    have hZ := hY.trans (hb8.mono hY.size)
    clear hp hI6
    refine hK.out _ _ (HPB.out _ (HB3.out.trans (hZ.mono HB3.out.size))) (fun hH => ?_)
    clear hK K
    refine wpAnyH_take (i := 8) (v := .tuple #[.slice A8 s1.length c8, .int .i64 (s2 : Nat), .int .i64 (s3 : Nat)]) rfl (by kernel_rfl) (by kernel_rfl) (by kernel_rfl) (fun _ _ _ h => h) (Or.inl ⟨by rfl, ?_⟩) (by assumption) ?_
    · intro W hW
      obtain ⟨g1, g2⟩ := hW
      go_simp
    try simp only [List.getElem_toArray, List.getElem_cons_zero, List.getElem_cons_succ, Act.put, List.setIfInBounds_toArray, List.set_cons_zero, List.set_cons_succ]
    refine wpAnyH_take (i := 9) (v := .slice A8 s1.length c8) rfl (by kernel_rfl) (by kernel_rfl) (by kernel_rfl) (fun _ _ _ h => h) (Or.inl ⟨by rfl, ?_⟩) (by assumption) ?_
    · intro W hW
      obtain ⟨g1, g2⟩ := hW
      go_simp
    try simp only [List.getElem_toArray, List.getElem_cons_zero, List.getElem_cons_succ, Act.put, List.setIfInBounds_toArray, List.set_cons_zero, List.set_cons_succ]
    refine wpAnyH_take (i := 10) (v := .int .i64 (s2 : Nat)) rfl (by kernel_rfl) (by kernel_rfl) (by kernel_rfl) (fun _ _ _ h => h) (Or.inl ⟨by rfl, ?_⟩) (by assumption) ?_
    · intro W hW
      obtain ⟨g1, g2⟩ := hW
      go_simp
    try simp only [List.getElem_toArray, List.getElem_cons_zero, List.getElem_cons_succ, Act.put, List.setIfInBounds_toArray, List.set_cons_zero, List.set_cons_succ]
    refine wpAnyH_take (i := 11) (v := .int .i64 (s3 : Nat)) rfl (by kernel_rfl) (by kernel_rfl) (by kernel_rfl) (fun _ _ _ h => h) (Or.inl ⟨by rfl, ?_⟩) (by assumption) ?_
    · intro W hW
      obtain ⟨g1, g2⟩ := hW
      go_simp
    try simp only [List.getElem_toArray, List.getElem_cons_zero, List.getElem_cons_succ, Act.put, List.setIfInBounds_toArray, List.set_cons_zero, List.set_cons_succ]
    refine wpAnyH_take (i := 12) (v := .slice A8 s1.length c8) rfl (by kernel_rfl) (by kernel_rfl) (by kernel_rfl) (fun _ _ _ h => h) (Or.inl ⟨by rfl, ?_⟩) (by assumption) ?_
    · intro W hW
      obtain ⟨g1, g2⟩ := hW
      go_simp
    try simp only [List.getElem_toArray, List.getElem_cons_zero, List.getElem_cons_succ, Act.put, List.setIfInBounds_toArray, List.set_cons_zero, List.set_cons_succ]
    refine wpAnyH_take (i := 13) (v := .int .i64 (s2 : Nat)) rfl (by kernel_rfl) (by kernel_rfl) (by kernel_rfl) (fun _ _ _ h => h) (Or.inl ⟨by rfl, ?_⟩) (by assumption) ?_
    · intro W hW
      obtain ⟨g1, g2⟩ := hW
      go_simp
    try simp only [List.getElem_toArray, List.getElem_cons_zero, List.getElem_cons_succ, Act.put, List.setIfInBounds_toArray, List.set_cons_zero, List.set_cons_succ]
    refine wpAnyH_take (i := 14) (v := .int .i64 (s3 : Nat)) rfl (by kernel_rfl) (by kernel_rfl) (by kernel_rfl) (fun _ _ _ h => h) (Or.inl ⟨by rfl, ?_⟩) (by assumption) ?_
    · intro W hW
      obtain ⟨g1, g2⟩ := hW
      go_simp
    try simp only [List.getElem_toArray, List.getElem_cons_zero, List.getElem_cons_succ, Act.put, List.setIfInBounds_toArray, List.set_cons_zero, List.set_cons_succ]
    refine wpAnyH_done (by kernel_rfl) ?_ _
    have HBZ := Lib.hid (HB3.out.trans (hZ.mono HB3.out.size))
    have HR9 := Lib.hid (HR7.out.below hZ)
    have HR8 := Lib.hid hr8
    have z1 := cell_of_row w6 (w.heap.size + 1) 1 _ _ _ (HPB.out w6 HBZ.out).2
    have HBW := Lib.hid (HB1.out.trans (HBZ.out.mono HB1.out.size))
    have hmo := HMO.out
    rw [HS.out, HR.out] at hmo
    have hle := HLE.out
    rw [HR.out] at hle
    have HRN := HRL.out
    clear hH hZ hY hr8 hb8 hA6 HBD
    by_cases h3 : r3 = 0
    · subst h3
      cases hb : itemBad (items ++ [x]) items.length with
      | true =>
        obtain ⟨hs1, hs2, hs3⟩ : s1 = [] ∧ s2 = items.length ∧ s3 = 91 := by simpa [hb] using hmo
        subst hs1 hs2 hs3
        clear hmo hb hle
        go_wp2_with (fail)
        go_ret
        exact ⟨by simp, HBW.out⟩
      | false =>
        obtain ⟨hs1, hs2, hs3⟩ : s1 = r1 ++ outP [x] p [] ∧ s2 = 0 ∧ s3 = 0 := by simpa [hb] using hmo
        rw [HOX.out] at hs1
        have c8' : (r1.length : Int) ≤ (c8 : Int) := by
          have : r1.length ≤ s1.length := by rw [hs1]; simp
          omega
        have l0 : (0 : Int) ≤ (r1.length : Int) := by omega
        have e1 : IntKind.i64.wrap ((r1.length : Int) + 1) = (r1.length : Int) + 1 := IntWalk.i64_in _ (by omega)
        by_cases hw : x.what = 1
        · rw [if_pos hw, List.append_nil] at hs1
          have hw' : (x.what != 1) = false := by rw [hw]; rfl
          subst hs1 hs2 hs3
          have HSM := Lib.hid (Same_ref s1 A8 A7 s1.length c8 c7 w6 HR8.out HR9.out (by omega) rfl)
          clear hmo hb hle hw
          go_wp2_with (fail)
          refine HSM.out.mono ?_
          rintro e w9 ⟨rfl, hb9⟩
          go_wp2_with (fail)
          go_ret
          exact ⟨by simp, HBW.out.trans (hb9.mono HBW.out.size)⟩
        · rw [if_neg hw] at hs1
          have hw' : (x.what != 1) = true := bne_iff_ne.2 hw
          have HR5 := HR8.out
          rw [hs1] at HR5
          have HSM := Lib.hid (Same_ref r1 A8 A7 r1.length c8 c7 w6 (rows_left HR5) HR9.out (by omega) rfl)
          have hls : s1.length = r1.length + 1 := by rw [hs1]; simp
          rw [hls]
          subst hs2 hs3
          clear hmo hb hle hw hs1 HR5 hls
          go_wp2_with (fail)
          refine HSM.out.mono ?_
          rintro e w9 ⟨rfl, hb9⟩
          go_wp2_with (fail)
          go_ret
          exact ⟨by simp, HBW.out.trans (hb9.mono HBW.out.size)⟩
    · have h91 : r3 = 91 := hle.resolve_left h3
      subst h91
      obtain ⟨hs1, hs2, hs3⟩ : s1 = r1 ∧ s2 = r2 ∧ s3 = 91 := by simpa using hmo
      subst hs1 hs2 hs3
      clear hmo hle h3
      go_wp2_with (fail)
      go_ret
      exact ⟨by simp, HBW.out⟩

theorem sum_memO {α : Type} (l : List α) (f : α → Nat) : ∀ x ∈ l, f x ≤ (l.map f).sum := by
  induction l with
  | nil => intro x hx; cases hx
  | cons y l ih =>
    intro x hx
    simp only [List.map_cons, List.sum_cons]
    rcases List.mem_cons.1 hx with rfl | hx
    · omega
    · have := ih x hx; omega

open Go.ChangeShapes Go.WideShapes Go.ChangeAt in
set_option maxRecDepth 100000 in
/-- What the walk gives, for every argument. -/
theorem PlanMore_contract (H : Type) (enc : TypeId × Value → H) (W : World) (base : Nat) (args : Array Value) (ds gs : List (DataW H)) (before : List MemPlace)
    (hval : ∀ (j : Nat) t v, Tryd.f7.params[j]? = some t → args[j]? = some v → Value.okWide Tryd.prog W .any base t v)
    (hW : DataW.Whole enc Tryd.prog Tryd.f7.params.toList Rows.planMoreSpec.vars false W args.toList ds gs before) (hL : laidMetH Tryd.prog Rows.planMoreRow.laid W) (hS : W.ShapedOpen Tryd.prog) (hk : Rows.uptoSmall H (ds ++ gs) = true) :
    Calls Tryd.prog 7 args W fun e W' => ∃ v, e = .returned v ∧ Rows.planMoreSpec.post enc Tryd.prog Tryd.f7 false true false false W args v W' := by
  have hW' := hW
  obtain ⟨p, q, hA0, hV, rfl, hfz, hnd⟩ := hW
  have hA : DataW.TrodAll enc Tryd.prog W 0 (fun _ => true) true Tryd.f7.params.toList args.toList ds p := hA0
  rw [Tryd.params7] at hA hval
  obtain ⟨v0, vs0, d0, ds0, p0, q0, hargs, rfl, rfl, h0, r0⟩ := trodAll_cons hA
  obtain ⟨v1, vs1, d1, ds1, p1, q1, rfl, rfl, rfl, h1, r1⟩ := trodAll_cons r0
  obtain ⟨v2, vs2, d2, ds2, p2, q2, rfl, rfl, rfl, h2, r2⟩ := trodAll_cons r1
  obtain ⟨rfl, rfl, rfl⟩ := trodAll_nil r2
  obtain rfl : args = #[v0, v1, v2] := by cases args; simp_all
  obtain ⟨rfl, rfl⟩ := trodVars_none hV
  obtain ⟨A0, c0, x0, rfl, hc0, hm0, ks0, kd0, kw0⟩ := open_items (hval 0 22 v0 rfl rfl) h0
  obtain ⟨pA1, pn1, pc1, qA1, qn1, qc1, rA1, rc1, p1, f1, rfl, hc1, hm1, ks1, kp1, kf1, kw1⟩ := open_prof (hval 1 26 v1 rfl rfl) h1
  obtain ⟨xa2, xb2, ya2, yb2, fu2, rfl, rfl, rfl, ha2, hb2⟩ := Go.Joins.open_agg2 Tryd.underlying38 (by kernel_rfl) (by kernel_rfl) (hval 2 38 v2 rfl rfl) h2
  obtain ⟨a2, ea2, rfl, ka2⟩ := trod_str Tryd.underlying9 ha2
  obtain ⟨b2, eb2, rfl, kb2⟩ := DataW.trod_int Tryd.underlying3 hb2
  simp only [List.cons.injEq, and_true] at eb2
  subst ea2 eb2
  have lb2 := bounds_i64 kb2
  clear hA0
  have hbulk := bulk_bound hk
  simp only [List.cons_append, List.nil_append, List.append_nil, Rows.uptoBulkAll] at hbulk
  obtain ⟨m, hm⟩ := laid_of hL hS
  simp only [Rows.uptoBulk, Rows.uptoBulkAll] at hbulk
  have hsl := sum_ge x0 (fun o => o.path.length + 1) (by simp)
  have hsm := sum_ge p1.merge (fun o => o.name.length + o.pat.length + 1) (by simp)
  refine (PlanMore_any x0 A0 c0 pA1 pn1 pc1 qA1 qn1 qc1 rA1 rc1 p1 f1 ⟨a2, b2⟩ m W hm ks1 (by omega) ks0 (by omega) hc0 (fun x hx => ?_) ?_).mono ?_
  · have := sum_memO x0 (fun o => o.path.length + 1) x hx
    omega
  · show a2.length ≤ _
    omega
  exact fun e W' ⟨he, hb⟩ => ⟨_, he, law_post rfl hW' rfl (by kernel_rfl) Tryd.underlying4 (by kernel_rfl) laidOut hb⟩

open Go.ChangeShapes Go.WideShapes Go.ChangeAt in
theorem PlanMore_met (os : Os) : laidMet Tryd.prog Rows.planMoreUptoRow.laid ((laidWorld os).forCall (fun _ _ => 0) ⟨#[], #[.slice none 0 0, .agg #[.slice none 0 0, .slice none 0 0, .slice none 0 0, .int .i64 0, .int .i64 0, .bool false, .bool false], .agg #[.string ⟨#[]⟩, .int .i64 0]], []⟩).memory :=
  laidMet_of_run' 8 (by kernel_rfl) (by kernel_rfl)
open Go.ChangeShapes Go.WideShapes Go.ChangeAt in
theorem PlanMore_reads (os : Os) {H : Type} (enc : TypeId × Value → H) : ∃ places, DataW.whole enc Tryd.prog ((laidWorld os).forCall (fun _ _ => 0) ⟨#[], #[.slice none 0 0, .agg #[.slice none 0 0, .slice none 0 0, .slice none 0 0, .int .i64 0, .int .i64 0, .bool false, .bool false], .agg #[.string ⟨#[]⟩, .int .i64 0]], []⟩).memory Tryd.f7.params.toList Rows.planMoreSpec.vars false #[.slice none 0 0, .agg #[.slice none 0 0, .slice none 0 0, .slice none 0 0, .int .i64 0, .int .i64 0, .bool false, .bool false], .agg #[.string ⟨#[]⟩, .int .i64 0]].toList 8 = some ([.nil, .agg [.nil, .nil, .nil, .lit (.int .i64 0), .lit (.int .i64 0), .lit (.bool false), .lit (.bool false)], .agg [.lit (.string []), .lit (.int .i64 0)]], [], places) :=
  ⟨[], by kernel_rfl⟩

open Go.ChangeShapes Go.WideShapes Go.ChangeAt in
set_option maxRecDepth 100000 in
theorem PlanMore_lifted (os : Os) (started : os.Started) (H : Type) (enc : TypeId × Value → H) (F : Stop.Interp) :
    ReturnsInHanded {} Tryd.checked os 7 .any ((Rows.OpenSpec.upto Rows.planMoreSpec).preRow enc Tryd.prog Tryd.f7 Rows.planMoreUptoRow.domain false Rows.planMoreUptoRow.laid) (((Rows.OpenSpec.upto Rows.planMoreSpec).at F).post enc Tryd.prog Tryd.f7 false true false false) := by
  obtain ⟨places, hx⟩ := PlanMore_reads os enc
  refine returnsInHanded_of_row (C := Tryd.checked) (s := Rows.OpenSpec.upto Rows.planMoreSpec) own started (by kernel_rfl) Tryd.func7
    (witness_row_at (enc := enc) (C := Tryd.checked) false (laidWorld os) #[.slice none 0 0, .agg #[.slice none 0 0, .slice none 0 0, .slice none 0 0, .int .i64 0, .int .i64 0, .bool false, .bool false], .agg #[.string ⟨#[]⟩, .int .i64 0]] rfl (by kernel_rfl) (by kernel_rfl) (by kernel_rfl)
      (OpenSpec.preRow_of_cond 8 hx (by kernel_rfl) (fun k hk => by cases hk; kernel_rfl) (by kernel_rfl) (PlanMore_met os))) ?_
  intro W base args ds gs before hval hW _ hcond _ hL hS _
  exact PlanMore_contract H enc W base args ds gs before hval hW hL hS (hcond _ rfl)

theorem PlanMore_said : Rows.PlanMoreUptoSaid :=
  OpenClaim.holds_of_cond 7 Tryd.f7 rfl rfl rfl rfl rfl rfl rfl ⟨rfl, rfl, rfl, rfl, rfl⟩ rfl rfl rfl rfl rfl (by kernel_rfl) Tryd.func7 (by kernel_rfl)
    (of_decide_eq_true (by kernel_rfl)) (by unfold Func.isWrapper; first | (rw [if_pos (by decide +kernel)]; kernel_rfl) | (rw [if_neg (by decide +kernel)]; exact ⟨rfl, rfl⟩))
    (fun os started H enc _ F => by rw [OpenClaim.pre_eq_preRow]; exact PlanMore_lifted os started H enc F)

theorem PlanMore_holds : Rows.PlanMoreUptoCardSaid :=
  Claim7.holds_tied_plain_at .later [] _ _ _ _ PlanMore_said (fun _ h => by cases h) (by kernel_rfl) (fun _ h => by cases h) planMoreUpto_row_tie rfl ⟨rfl, rfl⟩ (by kernel_rfl) rfl
    (card_plain (f0 := 7) (fn0 := Tryd.f7) (by kernel_rfl) Tryd.func7 (by kernel_rfl) (by kernel_rfl)) (by kernel_rfl)
end Go.Proofs.YtjhjepkmcbjgoaaDoor
end
