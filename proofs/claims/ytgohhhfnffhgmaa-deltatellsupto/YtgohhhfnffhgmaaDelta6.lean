/- The document's Make. -/
import Derived.Test.YtgohhhfnffhgmaaDelta4
import Derived.Test.YtgohhhfnffhgmaaPlainDelta3
namespace Go.Proofs.Ytgohhhfnffhgmaa
open Go.RowKit Plain

def stpV (o : Stp) : List Value := [.int .i64 o.from', .int .i64 o.count, .string ⟨o.t.toArray⟩]
theorem stpV_length (o : Stp) : (stpV o).length = 3 := rfl
theorem stpV_oneCell (o : Stp) : ∀ u ∈ stpV o, u.oneCell' = true := by
  intro u hu
  simp [stpV] at hu
  rcases hu with rfl | rfl | rfl <;> rfl
theorem info_Op : (Try.prog.info? 46).map (fun i => (i.zero, i.size, i.bytes)) = some (some (.agg #[.int .i64 0, .int .i64 0, .string ⟨#[]⟩]), 3, 32) := by kernel_rfl
theorem info_OpS : (Try.prog.info? 46).map (·.size) = some 3 := by kernel_rfl
/-- a list of steps -/
def OpsAt (w : World) (base : Nat) (v : Value) (l : List Stp) : Prop := w.ownsRow base 46 3 v l.length (rowsE stpV l)
theorem OpsAt.below {w w' : World} {base : Nat} {v : Value} {l : List Stp} (h : OpsAt w base v l) (hb : Below w.heap.size w w') : OpsAt w' base v l := own_below h hb
theorem OpsAt.slice {w : World} {base : Nat} {v : Value} {l : List Stp} (h : OpsAt w base v l) : ∃ A c, v = .slice A l.length c := by
  obtain ⟨A, c, e, -⟩ := IsSlice.of_own h
  exact ⟨A, c, e⟩
theorem OpsAt.at_ {w : World} {base : Nat} {A : Option Addr} {c : Nat} {l : List Stp} (h : OpsAt w base (.slice A l.length c) l) {k : Nat} (hk : k < l.length) :
    ∃ g, A = some ⟨g, 0, none⟩ ∧ base ≤ g ∧ g < w.heap.size ∧ w.cell? ⟨g, k * 3, none⟩ = some (.int .i64 l[k].from') ∧ w.cell? ⟨g, k * 3 + 1, none⟩ = some (.int .i64 l[k].count) ∧ w.cell? ⟨g, k * 3 + 2, none⟩ = some (.string ⟨l[k].t.toArray⟩) ∧ ∀ i, w.frozen? ⟨g, i, none⟩ = false := by
  obtain ⟨g, c', e, h1, h2⟩ := rowsE_some h (by omega)
  injection e with e1 e2 e3
  subst e1 e3
  refine ⟨g, rfl, h1, h2, ?_, ?_, ?_, fun i => rowsE_frozen h i⟩
  · exact rowsE_cell stpV_length h hk (i := 0) (by omega)
  · exact rowsE_cell stpV_length h hk (i := 1) (by omega)
  · exact rowsE_cell stpV_length h hk (i := 2) (by omega)
/-- the last step's count has turned -/
theorem OpsAt.count {w : World} {base g c m : Nat} {init : List Stp} {o : Stp} (h : OpsAt w base (.slice (some ⟨g, 0, none⟩) (init ++ [o]).length c) (init ++ [o])) (hm : m = init.length) (x : Int) :
    OpsAt (w.setCell ⟨g, m * 3 + 1, none⟩ (.int .i64 x)) base (.slice (some ⟨g, 0, none⟩) (init ++ [o]).length c) (init ++ [{ o with count := x }]) ∧ w.grownBy (w.setCell ⟨g, m * 3 + 1, none⟩ (.int .i64 x)) (some g) := by
  subst hm
  have h1 := rowsE_setcell stpV_length h (j := init.length) (by simp) (i := 1) (by omega) (.int .i64 x) { o with count := x } (by simp [stpV])
  rw [set_last] at h1
  refine ⟨?_, h1.2⟩
  unfold OpsAt
  have e : (init ++ [{ o with count := x }]).length = (init ++ [o]).length := by simp
  rw [e]; exact h1.1
/-- the last step's text has turned -/
theorem OpsAt.text {w : World} {base g c m : Nat} {init : List Stp} {o : Stp} (h : OpsAt w base (.slice (some ⟨g, 0, none⟩) (init ++ [o]).length c) (init ++ [o])) (hm : m = init.length) (x : List UInt8) :
    OpsAt (w.setCell ⟨g, m * 3 + 2, none⟩ (.string ⟨x.toArray⟩)) base (.slice (some ⟨g, 0, none⟩) (init ++ [o]).length c) (init ++ [{ o with t := x }]) ∧ w.grownBy (w.setCell ⟨g, m * 3 + 2, none⟩ (.string ⟨x.toArray⟩)) (some g) := by
  subst hm
  have h1 := rowsE_setcell stpV_length h (j := init.length) (by simp) (i := 2) (by omega) (.string ⟨x.toArray⟩) { o with t := x } (by simp [stpV])
  rw [set_last] at h1
  refine ⟨?_, h1.2⟩
  unfold OpsAt
  have e : (init ++ [{ o with t := x }]).length = (init ++ [o]).length := by simp
  rw [e]; exact h1.1

set_option maxRecDepth 100000 in
set_option maxHeartbeats 4000000 in
theorem Make_ref (base : Nat) (lv : Value) (l : List Blk) (data : List UInt8) (size : Nat) (w : World) (hL : BlksAt w base lv l) (hs : 1 ≤ size) (hs2 : size ≤ 65536) (hd : data.length ≤ 1048576) (hl : l.length ≤ 4294967296) (hb32 : ∀ b ∈ l, b.w < 4294967296) :
    Calls Try.prog 10 #[.string ⟨data.toArray⟩, lv, .int .i64 (size : Nat)] w fun e w' => ∃ v, e = .returned (.tuple #[v, .int .i64 0]) ∧ OpsAt w' w.heap.size v (makeP data l size) ∧ Below w.heap.size w w' := by
  obtain ⟨i0, hi, hz0, hz1, hz2⟩ := info_parts info_Op
  have HI := Lib.hid hi
  have b1 : decide ((size : Int) < 1) = false := decide_eq_false (by omega)
  have b2 : decide ((65536 : Int) < size) = false := decide_eq_false (by omega)
  have HL := Lib.hid hL
  clear hi hL
  go_enter Try.func10, Try.ntmps10
  go_wp2_with (fail)
  go_loopw [8, 9, 10, 11, 12] (fun t8 t9 _ _ _ W => ∃ (a : Nat) (ops : List Stp), a ≤ data.length ∧ t9 = .int .i64 (a : Nat) ∧ Hid (OpsAt W w.heap.size t8 ops) ∧ Hid (Below w.heap.size w W) ∧ Hid (Leads data l size a ops) ∧ Hid (OkOps l.length a ops)) (fun _ t9 _ _ _ _ => data.length - (intOf t9).toNat)
  case atStart => exact ⟨0, [], by omega, rfl, Lib.hid (World.ownsRow_nil _ _ _ _), Lib.hid (Below.refl _ _), Lib.hid Leads.start, Lib.hid (OkOps.nil _)⟩
  case round =>
    obtain ⟨a, ops, ha, rfl, HO, HB, HLD, HK⟩ := hrel
    by_cases hlt : a < data.length
    · obtain ⟨n, hn⟩ : ∃ n, n = min size (data.length - a) := ⟨_, rfl⟩
      have hpl : (pieceD data size a).length = n := by rw [pieceD_length, hn]
      have hpe : pieceD data size a = (data.drop a).take n := by
        unfold pieceD
        by_cases q : size ≤ data.length - a
        · rw [hn, Nat.min_eq_left q]
        · rw [hn, Nat.min_eq_right (by omega), List.take_of_length_le (by simp; omega), List.take_of_length_le (by simp)]
      have hmin : min (size : Int) ((data.length : Int) - (a : Int)) = (n : Nat) := by omega
      have hn1 : 1 ≤ n := by omega
      have hn2 : a + n ≤ data.length := by omega
      have hn3 : n ≤ 65536 := by omega
      obtain ⟨A, c, rfl⟩ := HO.out.slice
      have hmt := fun W (h : Below w.heap.size w W) => rmatch_any base lv l (pieceD data size a) W (HL.out.below h) hl (by omega) hb32
      rw [hpe] at hmt
      have HPE := Lib.hid hpe
      have HMT := Lib.hid hmt
      have HN := Lib.hid hn
      clear hpe hmt hn
      go_wp2_with (fail)
      refine (HMT.out _ HB.out).mono ?_
      rintro e w1 ⟨rfl, hb1⟩
      have HB1 := Lib.hid (HB.out.trans (hb1.mono HB.out.size))
      have HO1 := Lib.hid (HO.out.below hb1)
      clear hb1 HB HO HMT
      have hal := HK.out.1
      rw [← HPE.out]
      cases hm : matchP l (pieceD data size a) with
      | some i =>
        have hmi := matchI_some hm
        have hil := match_lt hm
        have HM := Lib.hid hm
        rw [hmi]
        clear hm hmi
        rcases nil_or_last ops with rfl | ⟨init, o, rfl⟩
        · go_wp2_with (fail)
          go_quiet (fail)
          have HO2 := Lib.hid (show (w1.drewN nq).ownsRow w.heap.size 46 3 _ _ _ from HO1.out)
          have HB2 := Lib.hid (below_drewN HB1.out nq)
          generalize w1.drewN nq = W2 at *
          go_wp2_with (at_builtin; refine wpList_append_two rfl _ _ 34 rfl w.heap.size 46 i0 _ 3 32 Try.underlying34 HI.out hz0 hz1 hz2 rfl (by decide) _ _ _ rfl (HO2.out.alloc _) ⟨W2.heap.size, 0, none⟩ 1 1 (stpV ⟨(i : Int), 1, []⟩) rfl rfl (laid_rowE _ _ _) (stpV_oneCell _) ?c3 ?c4 ?c5 ?_)
          case c3 => have := HK.out.1; unfold maxLen; omega
          case c4 => have := HK.out.1; omega
          case c5 => have := HB2.out.size; simp; omega
          intro v1 w5 hown5 hg5 hl5
          have HB5 := Lib.hid (show Below w.heap.size w w5 from (HB2.out.alloc HB2.out.size _).grown hg5 (by have := HB2.out.size; simp; omega) (fun k hk => (HO2.out.lt k hk).1))
          have HO5 := Lib.hid (show OpsAt w5 w.heap.size v1 ([] ++ [⟨(i : Int), 1, []⟩]) by unfold OpsAt; rw [rowsE_append, rowsE_one, List.length_append]; exact hown5)
          have hst := (step_some_new HM.out (fun o (ho : ([] : List Stp).getLast? = some o) => by cases ho)).trans (by rw [hpl])
          have HLD5 := Lib.hid (HLD.out.next hs hlt hst)
          have HK5 := Lib.hid (HK.out.add (n' := a + n) (by omega) ⟨(i : Int), 1, []⟩ ⟨by show (0 : Int) ≤ (i : Int); omega, by show (0 : Int) ≤ 1; omega, by show (i : Int) + 1 ≤ l.length; omega, by show 0 ≤ _; omega⟩)
          clear hown5 hg5 hl5 hst HO2 HB2
          go_wp2_with (fail)
          all_goals exact ⟨⟨a + n, _, by omega, by go_num, HO5, HB5, HLD5, HK5⟩, by simp [intOf]; omega⟩
        · have hol := HK.out.last
          obtain ⟨g, rfl, hgb, hgl, c0, c1, c2, cf⟩ := HO1.out.at_ (k := init.length) (by simp)
          simp only [get_last] at c0 c1 c2
          have hlen : (init ++ [o]).length = init.length + 1 := by simp
          have hlz : ((init ++ [o]).length : Int) - 1 = (init.length : Int) := by omega
          have i1 : (0 : Int) ≤ (init.length : Int) := by omega
          have i2 : (init.length : Int) < ((init ++ [o]).length : Int) := by omega
          have cf1 := cf (init.length * 3 + 1)
          have cf2 := cf (init.length * 3 + 2)
          by_cases q1 : 0 < o.count ∧ o.from' + o.count = i
          case pos =>
            obtain ⟨of, oc, ot⟩ := o
            simp only at c0 c1 c2 hol q1
            have e1 : decide ((0 : Int) < oc) = true := decide_eq_true q1.1
            have e2 : (of + oc == (i : Int)) = true := by rw [beq_iff_eq]; exact q1.2
            have HQ := Lib.hid (fun W (h : OpsAt W w.heap.size (.slice (some ⟨g, 0, none⟩) (init ++ [(⟨of, oc, ot⟩ : Stp)]).length c) (init ++ [⟨of, oc, ot⟩])) => OpsAt.count h rfl (oc + 1))
            have HQ1 := Lib.hid q1
            clear q1
            go_wp2_with (fail)
            go_quiet (fail)
            have HO2 := Lib.hid (show OpsAt (w1.drewN nq) _ _ _ from HO1.out)
            have HB2 := Lib.hid (below_drewN HB1.out nq)
            have d1 : (w1.drewN nq).cell? ⟨g, init.length * 3 + 1, none⟩ = _ := c1
            have df : (w1.drewN nq).frozen? ⟨g, init.length * 3 + 1, none⟩ = false := cf1
            clear c0 c1 c2 cf cf1 cf2
            generalize w1.drewN nq = W2 at *
            have HFIN := Lib.hid (HQ.out W2 HO2.out)
            have HB5 := Lib.hid (below_gb HB2.out HB2.out.size HFIN.out.2 hgb)
            have HLD5 := Lib.hid (HLD.out.next hs hlt ((step_some_last HM.out HQ1.out.1 HQ1.out.2).trans (by rw [hpl])))
            have HK5 := Lib.hid (HK.out.turn (n' := a + n) (by omega) ⟨of, oc + 1, ot⟩ ⟨hol.1, by show 0 ≤ oc + 1; omega, by show of + (oc + 1) ≤ _; have := HQ1.out.2; omega, by show ot.length ≤ _; omega⟩)
            go_wp2_with (fail)
            all_goals exact ⟨⟨a + n, _, by omega, by go_num, Lib.hid (by have h := HFIN.out.1; rw [hlen] at h; exact h), HB5, HLD5, HK5⟩, by simp [intOf]; omega⟩
          case neg =>
            have hno : ∀ p, (init ++ [o]).getLast? = some p → ¬ (0 < p.count ∧ p.from' + p.count = i) := by
              intro p hp
              simp at hp
              subst hp; exact q1
            obtain ⟨of, oc, ot⟩ := o
            simp only at c0 c1 c2 hol q1
            have HNO := Lib.hid hno
            clear hno
            by_cases q2 : 0 < oc
            case pos =>
              have e1 : decide ((0 : Int) < oc) = true := decide_eq_true q2
              have e2 : (of + oc == (i : Int)) = false := by rw [beq_eq_false_iff_ne]; exact fun h => q1 ⟨q2, h⟩
              clear q1
              go_wp2_with (fail)
              go_quiet (fail)
              have HO2 := Lib.hid (show (w1.drewN nq).ownsRow w.heap.size 46 3 (.slice (some ⟨g, 0, none⟩) (init.length + 1) c) (init.length + 1) (rowsE stpV (init ++ [⟨of, oc, ot⟩])) from by have h := HO1.out; unfold OpsAt at h; rw [hlen] at h; exact h)
              have HB2 := Lib.hid (below_drewN HB1.out nq)
              generalize w1.drewN nq = W2 at *
              go_wp2_with (at_builtin; refine wpList_append_two rfl _ _ 34 rfl w.heap.size 46 i0 _ 3 32 Try.underlying34 HI.out hz0 hz1 hz2 rfl (by decide) _ _ _ rfl (HO2.out.alloc _) ⟨W2.heap.size, 0, none⟩ 1 1 (stpV ⟨(i : Int), 1, []⟩) rfl rfl (laid_rowE _ _ _) (stpV_oneCell _) ?c3 ?c4 ?c5 ?_)
              case c3 => have := HK.out.1; unfold maxLen; omega
              case c4 => have := HK.out.1; omega
              case c5 => have := HB2.out.size; simp; omega
              intro v1 w5 hown5 hg5 hl5
              have HB5 := Lib.hid (show Below w.heap.size w w5 from (HB2.out.alloc HB2.out.size _).grown hg5 (by have := HB2.out.size; simp; omega) (fun k hk => (HO2.out.lt k hk).1))
              have HO5 := Lib.hid (show OpsAt w5 w.heap.size v1 ((init ++ [⟨of, oc, ot⟩]) ++ [⟨(i : Int), 1, []⟩]) by unfold OpsAt; rw [rowsE_append, rowsE_one, List.length_append]; rw [hlen]; exact hown5)
              have hst := (step_some_new HM.out HNO.out).trans (by rw [hpl])
              have HLD5 := Lib.hid (HLD.out.next hs hlt hst)
              have HK5 := Lib.hid (HK.out.add (n' := a + n) (by omega) ⟨(i : Int), 1, []⟩ ⟨by show (0 : Int) ≤ (i : Int); omega, by show (0 : Int) ≤ 1; omega, by show (i : Int) + 1 ≤ l.length; omega, by show 0 ≤ _; omega⟩)
              clear hown5 hg5 hl5 hst HO2 HB2
              go_wp2_with (fail)
              all_goals exact ⟨⟨a + n, _, by omega, by go_num, HO5, HB5, HLD5, HK5⟩, by simp [intOf]; omega⟩
            case neg =>
              have e1 : decide ((0 : Int) < oc) = false := decide_eq_false q2
              clear q1
              go_wp2_with (fail)
              go_quiet (fail)
              have HO2 := Lib.hid (show (w1.drewN nq).ownsRow w.heap.size 46 3 (.slice (some ⟨g, 0, none⟩) (init.length + 1) c) (init.length + 1) (rowsE stpV (init ++ [⟨of, oc, ot⟩])) from by have h := HO1.out; unfold OpsAt at h; rw [hlen] at h; exact h)
              have HB2 := Lib.hid (below_drewN HB1.out nq)
              generalize w1.drewN nq = W2 at *
              go_wp2_with (at_builtin; refine wpList_append_two rfl _ _ 34 rfl w.heap.size 46 i0 _ 3 32 Try.underlying34 HI.out hz0 hz1 hz2 rfl (by decide) _ _ _ rfl (HO2.out.alloc _) ⟨W2.heap.size, 0, none⟩ 1 1 (stpV ⟨(i : Int), 1, []⟩) rfl rfl (laid_rowE _ _ _) (stpV_oneCell _) ?c3 ?c4 ?c5 ?_)
              case c3 => have := HK.out.1; unfold maxLen; omega
              case c4 => have := HK.out.1; omega
              case c5 => have := HB2.out.size; simp; omega
              intro v1 w5 hown5 hg5 hl5
              have HB5 := Lib.hid (show Below w.heap.size w w5 from (HB2.out.alloc HB2.out.size _).grown hg5 (by have := HB2.out.size; simp; omega) (fun k hk => (HO2.out.lt k hk).1))
              have HO5 := Lib.hid (show OpsAt w5 w.heap.size v1 ((init ++ [⟨of, oc, ot⟩]) ++ [⟨(i : Int), 1, []⟩]) by unfold OpsAt; rw [rowsE_append, rowsE_one, List.length_append]; rw [hlen]; exact hown5)
              have hst := (step_some_new HM.out HNO.out).trans (by rw [hpl])
              have HLD5 := Lib.hid (HLD.out.next hs hlt hst)
              have HK5 := Lib.hid (HK.out.add (n' := a + n) (by omega) ⟨(i : Int), 1, []⟩ ⟨by show (0 : Int) ≤ (i : Int); omega, by show (0 : Int) ≤ 1; omega, by show (i : Int) + 1 ≤ l.length; omega, by show 0 ≤ _; omega⟩)
              clear hown5 hg5 hl5 hst HO2 HB2
              go_wp2_with (fail)
              all_goals exact ⟨⟨a + n, _, by omega, by go_num, HO5, HB5, HLD5, HK5⟩, by simp [intOf]; omega⟩
      | none =>
        have hmi := matchI_none hm
        have HM := Lib.hid hm
        have he1 : (data.drop a).take 1 = [data.getD a 0] := by
          rw [List.drop_eq_getElem_cons hlt, List.getD_eq_getElem?_getD, List.getElem?_eq_getElem hlt]; rfl
        have HE1 := Lib.hid he1
        rw [hmi]
        clear hm hmi he1
        rcases nil_or_last ops with rfl | ⟨init, o, rfl⟩
        · go_wp2_with (fail)
          go_quiet (fail)
          have HO2 := Lib.hid (show (w1.drewN nq).ownsRow w.heap.size 46 3 _ _ _ from HO1.out)
          have HB2 := Lib.hid (below_drewN HB1.out nq)
          generalize w1.drewN nq = W2 at *
          go_wp2_with (at_builtin; refine wpList_append_two rfl _ _ 34 rfl w.heap.size 46 i0 _ 3 32 Try.underlying34 HI.out hz0 hz1 hz2 rfl (by decide) _ _ _ rfl (HO2.out.alloc _) ⟨W2.heap.size, 0, none⟩ 1 1 (stpV ⟨0, 0, (data.drop a).take 1⟩) rfl rfl (laid_rowE _ _ _) (stpV_oneCell _) ?c3 ?c4 ?c5 ?_)
          case c3 => have := HK.out.1; unfold maxLen; omega
          case c4 => have := HK.out.1; omega
          case c5 => have := HB2.out.size; simp; omega
          intro v1 w5 hown5 hg5 hl5
          have HB5 := Lib.hid (show Below w.heap.size w w5 from (HB2.out.alloc HB2.out.size _).grown hg5 (by have := HB2.out.size; simp; omega) (fun k hk => (HO2.out.lt k hk).1))
          have HO5 := Lib.hid (show OpsAt w5 w.heap.size v1 ([] ++ [⟨0, 0, (data.drop a).take 1⟩]) by unfold OpsAt; rw [rowsE_append, rowsE_one, List.length_append]; exact hown5)
          have hst := (step_none_new HM.out (fun o (ho : ([] : List Stp).getLast? = some o) => by cases ho)).trans (by rw [← HE1.out])
          have HLD5 := Lib.hid (HLD.out.next hs hlt hst)
          have HK5 := Lib.hid (HK.out.add (n' := a + 1) (by omega) ⟨0, 0, (data.drop a).take 1⟩ ⟨by show (0 : Int) ≤ 0; omega, by show (0 : Int) ≤ 0; omega, by show (0 : Int) + 0 ≤ l.length; omega, by show ((data.drop a).take 1).length ≤ _; simp; omega⟩)
          clear hown5 hg5 hl5 hst HO2 HB2
          go_wp2_with (fail)
          all_goals exact ⟨⟨a + 1, _, by omega, by go_num, HO5, HB5, HLD5, HK5⟩, by simp [intOf]; omega⟩
        · have hol := HK.out.last
          obtain ⟨g, rfl, hgb, hgl, c0, c1, c2, cf⟩ := HO1.out.at_ (k := init.length) (by simp)
          simp only [get_last] at c0 c1 c2
          have hlen : (init ++ [o]).length = init.length + 1 := by simp
          have hlz : ((init ++ [o]).length : Int) - 1 = (init.length : Int) := by omega
          have i1 : (0 : Int) ≤ (init.length : Int) := by omega
          have i2 : (init.length : Int) < ((init ++ [o]).length : Int) := by omega
          have cf1 := cf (init.length * 3 + 1)
          have cf2 := cf (init.length * 3 + 2)
          obtain ⟨of, oc, ot⟩ := o
          simp only at c0 c1 c2 hol
          by_cases q2 : oc = 0
          case pos =>
            subst q2
            have HQ := Lib.hid (fun W (h : OpsAt W w.heap.size (.slice (some ⟨g, 0, none⟩) (init ++ [(⟨of, 0, ot⟩ : Stp)]).length c) (init ++ [⟨of, 0, ot⟩])) => OpsAt.text h rfl (ot ++ (data.drop a).take 1))
            go_wp2_with (fail)
            go_quiet (fail)
            have HO2 := Lib.hid (show OpsAt (w1.drewN nq) _ _ _ from HO1.out)
            have HB2 := Lib.hid (below_drewN HB1.out nq)
            have d1 : (w1.drewN nq).cell? ⟨g, init.length * 3 + 1, none⟩ = _ := c1
            have d2 : (w1.drewN nq).cell? ⟨g, init.length * 3 + 2, none⟩ = _ := c2
            have df : (w1.drewN nq).frozen? ⟨g, init.length * 3 + 2, none⟩ = false := cf2
            clear c0 c1 c2 cf cf1 cf2
            generalize w1.drewN nq = W2 at *
            go_wp2_with (fail)
            refine wp_region_quiet_tail 15 (by kernel_rfl) (by kernel_rfl) ?_
            simp only [List.take, List.drop]
            repeat first
              | (go_big_quiet_want; refine quiet_load_cell 9 _ rfl _ rfl _ _ d2 Try.underlying9 rfl ?_; simp only [Act.put, List.setIfInBounds_toArray, List.set_cons_succ, List.set_cons_zero]; go_big_quiet_on)
              | go_big_quiet_step (fail)
            refine wpQuiet_nil ?_
            intro W3 hW3
            have HO3 := HO2.out.below hW3
            have HB3 := Lib.hid (HB2.out.trans (hW3.mono HB2.out.size))
            have hgl2 := World.block_lt_of_cell? _ _ d2
            have d3 : W3.cell? ⟨g, init.length * 3 + 2, none⟩ = _ := (hW3.cell hgl2).trans d2
            have df3 : W3.frozen? ⟨g, init.length * 3 + 2, none⟩ = false := (hW3.frozen hgl2).trans df
            have HFIN := Lib.hid (HQ.out W3 HO3)
            have HB5 := Lib.hid (below_gb HB3.out HB3.out.size HFIN.out.2 hgb)
            have HLD5 := Lib.hid (HLD.out.next hs hlt ((step_none_last HM.out rfl).trans (by rw [← HE1.out])))
            have HK5 := Lib.hid (HK.out.turn (n' := a + 1) (by omega) ⟨of, 0, ot ++ (data.drop a).take 1⟩ ⟨hol.1, by show (0 : Int) ≤ 0; omega, by show of + 0 ≤ _; omega, by show (ot ++ (data.drop a).take 1).length ≤ _; simp; omega⟩)
            clear HO3 hW3 d1 d2 df HO2 HB2
            go_wp2_with (fail)
            all_goals exact ⟨⟨a + 1, _, by omega, by go_num, Lib.hid (by have h := HFIN.out.1; rw [hlen] at h; exact h), HB5, HLD5, HK5⟩, by simp [intOf]; omega⟩
          case neg =>
            have e1 : (oc == (0 : Int)) = false := by rw [beq_eq_false_iff_ne]; exact q2
            have hno : ∀ p, (init ++ [(⟨of, oc, ot⟩ : Stp)]).getLast? = some p → p.count ≠ 0 := by
              intro p hp
              simp at hp
              subst hp; exact q2
            have HNO := Lib.hid hno
            clear hno
            go_wp2_with (fail)
            go_quiet (fail)
            have HO2 := Lib.hid (show (w1.drewN nq).ownsRow w.heap.size 46 3 (.slice (some ⟨g, 0, none⟩) (init.length + 1) c) (init.length + 1) (rowsE stpV (init ++ [⟨of, oc, ot⟩])) from by have h := HO1.out; unfold OpsAt at h; rw [hlen] at h; exact h)
            have HB2 := Lib.hid (below_drewN HB1.out nq)
            have d1 : (w1.drewN nq).cell? ⟨g, init.length * 3 + 1, none⟩ = _ := c1
            generalize w1.drewN nq = W2 at *
            go_wp2_with (at_builtin; refine wpList_append_two rfl _ _ 34 rfl w.heap.size 46 i0 _ 3 32 Try.underlying34 HI.out hz0 hz1 hz2 rfl (by decide) _ _ _ rfl (HO2.out.alloc _) ⟨W2.heap.size, 0, none⟩ 1 1 (stpV ⟨0, 0, (data.drop a).take 1⟩) rfl rfl (laid_rowE _ _ _) (stpV_oneCell _) ?c3 ?c4 ?c5 ?_)
            case c3 => have := HK.out.1; unfold maxLen; omega
            case c4 => have := HK.out.1; omega
            case c5 => have := HB2.out.size; simp; omega
            intro v1 w5 hown5 hg5 hl5
            have HB5 := Lib.hid (show Below w.heap.size w w5 from (HB2.out.alloc HB2.out.size _).grown hg5 (by have := HB2.out.size; simp; omega) (fun k hk => (HO2.out.lt k hk).1))
            have HO5 := Lib.hid (show OpsAt w5 w.heap.size v1 ((init ++ [⟨of, oc, ot⟩]) ++ [⟨0, 0, (data.drop a).take 1⟩]) by unfold OpsAt; rw [rowsE_append, rowsE_one, List.length_append]; rw [hlen]; exact hown5)
            have hst := (step_none_new HM.out HNO.out).trans (by rw [← HE1.out])
            have HLD5 := Lib.hid (HLD.out.next hs hlt hst)
            have HK5 := Lib.hid (HK.out.add (n' := a + 1) (by omega) ⟨0, 0, (data.drop a).take 1⟩ ⟨by show (0 : Int) ≤ 0; omega, by show (0 : Int) ≤ 0; omega, by show (0 : Int) + 0 ≤ l.length; omega, by show ((data.drop a).take 1).length ≤ _; simp; omega⟩)
            clear hown5 hg5 hl5 hst HO2 HB2
            go_wp2_with (fail)
            all_goals exact ⟨⟨a + 1, _, by omega, by go_num, HO5, HB5, HLD5, HK5⟩, by simp [intOf]; omega⟩
    · obtain rfl : a = data.length := by omega
      have HF := Lib.hid HO.out
      have hdone := HLD.out.done (Nat.le_refl _)
      rw [← hdone] at HF
      clear hdone HO
      go_wp2_with (fail)
      go_ret2
      exact ⟨_, rfl, HF.out, HB.out⟩
end Go.Proofs.Ytgohhhfnffhgmaa
