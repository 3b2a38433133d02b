/- name.Path. -/
import Derived.Test.YtgppfcaghjbjmaaDoorName
import Derived.Test.YtgppfcaghjbjmaaDoorSplitSeq
import Derived.Test.YtgppfcaghjbjmaaDoorRangeLaw
namespace Go.Proofs.YtgppfcaghjbjmaaDoor
open Go.RowKit Go.Shelf Plain
attribute [local go_sem] Oper.semAt_some

theorem pathOK_long {s : List UInt8} (h : 400 < s.length) : pathOK s = false := by unfold pathOK; rw [decide_eq_false (by omega)]; rfl
theorem pathOK_deep {s : List UInt8} (h : 16 ≤ s.count 47) : pathOK s = false := by unfold pathOK; rw [parts_length, decide_eq_false (show ¬ s.count 47 + 1 ≤ 16 by omega)]; simp
theorem pathOK_all {s : List UInt8} (h : s.length ≤ 400) (h2 : s.count 47 < 16) : pathOK s = (parts s).all nameOK := by
  unfold pathOK; rw [parts_length, decide_eq_true h, decide_eq_true (by omega)]; simp

theorem cell_new0 (W : World) (v : Value) (t : TypeId) : (W.alloc (.cells #[v] t)).cell? ⟨W.heap.size, 0, none⟩ = some v := by simp [go_sem]
theorem frozen_new0 (W : World) (v : Value) (t : TypeId) : (W.alloc (.cells #[v] t)).frozen? ⟨W.heap.size, 0, none⟩ = false := by simp [go_sem]
theorem results_cell_one {P : Program} {fn : Func} {p : Tmp} {ty : TypeId} (h : fn.results = #[.cell p ty]) (tmps : Array Value) (w : World) (a : Addr) (v : Value) (hp : tmps.getD p undef = .pointer (some a)) (hc : w.cell? a = some v)
    (hagg : ∀ w, (isAgg ty).run P w = .ok false w) : (results fn tmps).run P w = .ok v w := by
  have hp' : tmps[p]?.getD undef = .pointer (some a) := by simpa using hp
  simp [results, h, hp', asAddr, loadVar, hagg, hc, go_sem]

/-- What the loop keeps. -/
def PathI (w : World) (pre : List (List UInt8)) (W : World) : Prop :=
  (∀ x ∈ pre, nameOK x = true) ∧ Below w.heap.size w W ∧ W.cell? ⟨w.heap.size, 0, none⟩ = some (.bool false) ∧ W.frozen? ⟨w.heap.size, 0, none⟩ = false
def PathX (w : World) (pre : List (List UInt8)) (W : World) : Prop :=
  (∃ x ∈ pre, nameOK x = false) ∧ Below w.heap.size w W ∧ W.cell? ⟨w.heap.size, 0, none⟩ = some (.bool false)

set_option maxHeartbeats 4000000 in
theorem Path_any (s : List UInt8) (w : World) (hT : Tabs w) :
    Calls Tryd.prog 18 #[.string ⟨s.toArray⟩] w (Ret w (.bool (pathOK s))) := by
  by_cases h1 : 400 < s.length
  · rw [pathOK_long h1]
    have hc : decide ((400 : Int) < s.length) = true := by simp; omega
    go_enter Tryd.func18, Tryd.ntmps18
    go_wp2_with (fail)
    refine bodyPost_ret (v := .bool false) (results_cell_one Tryd.results18 _ _ ⟨w.heap.size, 0, none⟩ _ rfl ?_ Tryd.isAgg4) rfl ⟨rfl, ?_⟩
    · exact cell_new0 _ _ _
    exact (Below.refl _ _).alloc (Nat.le_refl _) _
  have hc : decide ((400 : Int) < s.length) = false := by simp; omega
  have HCnt := Lib.hid (fun W => Tryd.strings_Count_one ⟨s.toArray⟩ 47 W)
  rw [show Lib.countByte (ByteArray.mk s.toArray).data.toList 47 = s.count 47 from rfl] at HCnt
  by_cases h2 : 16 ≤ s.count 47
  · rw [pathOK_deep h2]
    generalize s.count 47 = cn at *
    have hc2 : decide ((16 : Int) ≤ cn) = true := by simp; omega
    go_enter Tryd.func18, Tryd.ntmps18
    go_wp2_with (fail)
    refine (HCnt.out _).mono ?_
    rintro e w1 ⟨rfl, rfl⟩
    go_wp2_with (fail)
    refine bodyPost_ret (v := .bool false) (results_cell_one Tryd.results18 _ _ ⟨w.heap.size, 0, none⟩ _ rfl ?_ Tryd.isAgg4) rfl ⟨rfl, ?_⟩
    · exact cell_new0 _ _ _
    exact (Below.refl _ _).alloc (Nat.le_refl _) _
  rw [pathOK_all (by omega) (by omega)]
  have hcn : s.count 47 < 16 := by omega
  have hs63 : s.length ≤ 4294967280 := by omega
  generalize s.count 47 = cn at *
  have hc2 : decide ((16 : Int) ≤ cn) = false := by simp; omega
  have HSQ := Lib.hid (fun W => SplitSeq_any s W)
  refine (callsIn_wide (n := 5)).1 ?_
  refine callsIn_of_wp_marks Tryd.func18 rfl trivial ?_ rfl
  simp only [Tryd.ntmps18, List.size_toArray, List.length_cons, List.length_nil, Nat.reduceAdd, Nat.reduceSub, Array.replicate_succ, Array.replicate_zero, List.push_toArray, List.append_toArray, List.nil_append, List.cons_append]
  gi_wp2
  refine ⟨trivial, (callsIn_wide.2 (HCnt.out _)).mono ?_⟩
  rintro e w1 ⟨rfl, rfl⟩
  gi_wp2
  refine ⟨trivial, (callsIn_wide.2 (HSQ.out _)).mono ?_⟩
  rintro e w1 ⟨rfl, hw1⟩
  have hsz : w1.heap.size = w.heap.size + 4 := by rw [hw1]; simp
  have hB0 : Below w.heap.size w w1 := by
    rw [hw1]; exact ((((Below.refl _ _).alloc (Nat.le_refl _) _).alloc (by simp) _).alloc (by simp; omega) _).alloc (by simp; omega) _
  have hc0 : w1.cell? ⟨w.heap.size, 0, none⟩ = some (.bool false) := by rw [hw1]; simp [go_sem]
  have hf0 : w1.frozen? ⟨w.heap.size, 0, none⟩ = false := by rw [hw1]; simp [go_sem]
  have hc1 : w1.cell? ⟨w.heap.size + 1, 0, none⟩ = some (.string ⟨s.toArray⟩) := by rw [hw1]; simp [go_sem]
  have hf1 : w1.frozen? ⟨w.heap.size + 1, 0, none⟩ = false := by rw [hw1]; simp [go_sem]
  have hc2' : w1.cell? ⟨w.heap.size + 1 + 1, 0, none⟩ = some (.string ⟨#[47]⟩) := by rw [hw1]; simp [go_sem]
  have hc3 : w1.cell? ⟨w.heap.size + 1 + 2, 0, none⟩ = some (.int .i64 0) := by rw [hw1]; simp [go_sem]
  rw [World.size_alloc]
  clear hw1
  have HB0 := Lib.hid hB0
  have HC := Lib.hid (And.intro hc0 (And.intro hf0 (And.intro hc1 (And.intro hf1 (And.intro hc2' hc3)))))
  have HSZ := Lib.hid hsz
  clear hsz hB0 hc0 hf0 hc1 hf1 hc2' hc3
  gi_wp2
  refine rangeFunc_own (n := 5) (gf := 74) (lb := #[.pointer (some ⟨w.heap.size + 1 + 1, 0, none⟩), .pointer (some ⟨w.heap.size + 1, 0, none⟩), .pointer (some ⟨w.heap.size + 1 + 2, 0, none⟩)]) ?c0 (enters_of Tryd.func74 (by kernel_rfl) rfl) (encs := fun x => #[.string ⟨x.toArray⟩]) (fun _ => rfl) (parts s) (PathI w) (PathX w) (w.heap.size + 1) (by rw [HSZ.out]; omega) ?hseq ?hst ?hput ?hxput ?h0
    (fun x => { tmps := #[.string ⟨s.toArray⟩, undef, .pointer (some ⟨w.heap.size, 0, none⟩), .string ⟨x.toArray⟩, .string ⟨s.toArray⟩, .int .i64 s.length, .bool false, .bool false, .string ⟨s.toArray⟩, .int .i64 cn, .bool false, .bool false, .string ⟨s.toArray⟩, .func (.func 74) #[] #[.pointer (some ⟨w.heap.size + 1 + 1, 0, none⟩), .pointer (some ⟨w.heap.size + 1, 0, none⟩), .pointer (some ⟨w.heap.size + 1 + 2, 0, none⟩)], .string ⟨x.toArray⟩, undef, undef, undef], defers := [] }) ?assign ?body ?done ?stop
  case c0 => rfl
  case hseq =>
    intro l J Jx W hold hst hY h0
    rw [HSZ.out] at hold hY
    have hcell : ∀ b, b < w.heap.size + 4 → W.cell? ⟨b, 0, none⟩ = w1.cell? ⟨b, 0, none⟩ ∧ W.frozen? ⟨b, 0, none⟩ = w1.frozen? ⟨b, 0, none⟩ := fun b hb => by
      have h := hold b hb
      unfold World.cell? World.frozen?
      simp only [h]
      exact ⟨trivial, trivial⟩
    obtain ⟨_, _, k1, k2, k3, k4⟩ := HC.out
    exact splitSeq1_in (5 - 1) l (w.heap.size + 1) (w.heap.size + 1 + 1) (w.heap.size + 1 + 2) (w.heap.size + 4) s J Jx hs63 (by omega) (by omega) (by omega) (by omega) (by omega) hY hst W
      ((hcell _ (by omega)).1.trans k1) ((hcell _ (by omega)).1.trans k3) ((hcell _ (by omega)).1.trans k4) ((hcell _ (by omega)).2.trans k2) h0
  case hst =>
    rintro pre W v ⟨h1, h2, h3, h4⟩
    exact ⟨h1, h2.setCell (by show w.heap.size ≤ w.heap.size + 1; omega) _, by rw [World.cell?_setCell_other _ _ _ _ (by intro e; injection e with e; omega)]; exact h3, by rw [World.frozen?_setCell]; exact h4⟩
  case hput =>
    rintro pre W l o hl ⟨h1, h2, h3, h4⟩
    rw [HSZ.out] at hl
    have hb := World.block_lt_of_cell? _ _ h3
    have hk : (W.putObj l o).heap[w.heap.size]? = W.heap[w.heap.size]? := World.putObj_heap_other (by omega)
    refine ⟨h1, below_put h2 (by omega) _, ?_, ?_⟩
    · rw [← h3]; unfold World.cell?; simp only [hk]
    · rw [← h4]; unfold World.frozen?; simp only [hk]
  case hxput =>
    rintro pre W l o hl ⟨h1, h2, h3⟩
    rw [HSZ.out] at hl
    have hk : (W.putObj l o).heap[w.heap.size]? = W.heap[w.heap.size]? := World.putObj_heap_other (by omega)
    refine ⟨h1, below_put h2 (by omega) _, ?_⟩
    rw [← h3]; unfold World.cell?; simp only [hk]
  case h0 =>
    intro o1 o2
    obtain ⟨k1, k2, _⟩ := HC.out
    have hlt := World.block_lt_of_cell? _ _ k1
    have hbb := (((Below.refl w1.heap.size w1).alloc (Nat.le_refl _) o1).alloc (by simp) o2)
    exact ⟨(fun x hx => by cases hx), HB0.out.trans (hbb.mono HB0.out.size), (hbb.cell (p := ⟨w.heap.size, 0, none⟩) hlt).trans k1, (hbb.frozen (p := ⟨w.heap.size, 0, none⟩) hlt).trans k2⟩
  case assign =>
    intro l x W K hK
    gi_wp2
    exact hK
  case body =>
    rintro l pre x W ⟨h1, h2, h3, h4⟩ hlt
    have hN := Name_any x W (Utf8Tabs_below hT h2)
    cases hx : nameOK x with
    | true =>
      rw [hx] at hN
      have HN := Lib.hid hN
      have HX := Lib.hid hx
      clear hN hx
      gi_wp2
      refine ⟨trivial, (CallsIn.inRound l (callsIn_wide.2 HN.out)).mono ?_⟩
      rintro e w2 ⟨rfl, hw2⟩
      gi_wp2
      have hb := World.block_lt_of_cell? _ _ h3
      refine ⟨fun k h1 h2 => hw2.block k h2, hw2.mono (by omega), fun y hy => ?_, h2.trans (hw2.mono h2.size), (hw2.cell (p := ⟨w.heap.size, 0, none⟩) hb).trans h3, (hw2.frozen (p := ⟨w.heap.size, 0, none⟩) hb).trans h4⟩
      rw [List.mem_append, List.mem_singleton] at hy
      rcases hy with hy | rfl
      · exact h1 y hy
      · exact HX.out
    | false =>
      rw [hx] at hN
      have HN := Lib.hid hN
      have HX := Lib.hid hx
      clear hN hx
      gi_wp2
      refine ⟨trivial, (CallsIn.inRound l (callsIn_wide.2 HN.out)).mono ?_⟩
      rintro e w2 ⟨rfl, hw2⟩
      have hb := World.block_lt_of_cell? _ _ h3
      have h3' := (hw2.cell (p := ⟨w.heap.size, 0, none⟩) hb).trans h3
      have h4' := (hw2.frozen (p := ⟨w.heap.size, 0, none⟩) hb).trans h4
      gi_wp2
      refine ⟨fun k q1 q2 => ?_, ⟨x, by simp, HX.out⟩, ?_, World.cell?_setCell_same' _ _ _ (by rw [h3']; rfl)⟩
      · rw [HSZ.out] at q1
        exact (Below.heap_setCell _ _ _ _ (by show k ≠ w.heap.size; omega)).trans (hw2.block k q2)
      · exact (h2.trans (hw2.mono h2.size)).setCell (Nat.le_refl _) _
  case done =>
    rintro W ⟨h1, h2, h3, h4⟩ hK
    have hall : (parts s).all nameOK = true := by rw [List.all_eq_true]; exact h1
    have HA := Lib.hid hall
    have H1 := Lib.hid h1
    clear hall h1
    have hlt := World.block_lt_of_cell? _ _ h3
    have hK' : (W.setCell ⟨w.heap.size, 0, none⟩ (.bool true)).heap[w1.heap.size]? = some (.deferred (some [])) := (Below.heap_setCell _ _ _ _ (by show w1.heap.size ≠ w.heap.size; rw [HSZ.out]; omega)).trans hK
    gi_wp2
    refine ⟨by simp, .inl ⟨_, _, rfl, run_takeDeferred hK', ?_⟩⟩
    have hcell : ((W.setCell ⟨w.heap.size, 0, none⟩ (.bool true)).putObj w1.heap.size (.deferred none)).cell? ⟨w.heap.size, 0, none⟩ = some (.bool true) := by
      have hk : ((W.setCell ⟨w.heap.size, 0, none⟩ (.bool true)).putObj w1.heap.size (.deferred none)).heap[w.heap.size]? = (W.setCell ⟨w.heap.size, 0, none⟩ (.bool true)).heap[w.heap.size]? := World.putObj_heap_other (by rw [HSZ.out]; omega)
      have h5 : (W.setCell ⟨w.heap.size, 0, none⟩ (.bool true)).cell? ⟨w.heap.size, 0, none⟩ = some (.bool true) := World.cell?_setCell_same' _ _ _ (by rw [h3]; rfl)
      rw [← h5]; unfold World.cell?; simp only [hk]
    refine ⟨_, results_cell_one Tryd.results18 _ _ ⟨w.heap.size, 0, none⟩ _ rfl hcell Tryd.isAgg4, ?_⟩
    exact ⟨by rw [HA.out], below_put (h2.setCell (Nat.le_refl _) _) (by rw [HSZ.out]; omega) _⟩
  case stop =>
    rintro pre W hpre ⟨⟨x, hx, hxf⟩, h2, h3⟩ hK
    have hall : (parts s).all nameOK = false := by
      rw [List.all_eq_false]
      exact ⟨x, hpre.subset hx, by rw [hxf]; decide⟩
    have HA := Lib.hid hall
    clear hall hx hxf
    gi_wp2
    refine ⟨by simp, .inl ⟨_, _, rfl, run_takeDeferred hK, ?_⟩⟩
    have hcell : (W.putObj w1.heap.size (.deferred none)).cell? ⟨w.heap.size, 0, none⟩ = some (.bool false) := by
      have hk : (W.putObj w1.heap.size (.deferred none)).heap[w.heap.size]? = W.heap[w.heap.size]? := World.putObj_heap_other (by rw [HSZ.out]; omega)
      rw [← h3]; unfold World.cell?; simp only [hk]
    refine ⟨_, results_cell_one Tryd.results18 _ _ ⟨w.heap.size, 0, none⟩ _ rfl hcell Tryd.isAgg4, ?_⟩
    exact ⟨by rw [HA.out], below_put h2 (by rw [HSZ.out]; omega) _⟩
end Go.Proofs.YtgppfcaghjbjmaaDoor
