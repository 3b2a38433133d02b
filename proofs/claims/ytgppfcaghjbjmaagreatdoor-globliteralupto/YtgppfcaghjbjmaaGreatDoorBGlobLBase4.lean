/- Texts joined: Path, GenSplit, Strs, NameFns, Glob7, Glob8, PlainGlobR. -/
import Derived.Test.YtgppfcaghjbjmaaGreatDoorBGlobLBase3
import Derived.Test.YtgppfcaghjbjmaaGreatDoorBLitBase3
import Derived.Test.YtgppfcaghjbjmaaGreatDoorBLitBase1
import Derived.Test.YtgppfcaghjbjmaaGreatDoorShelf
import Derived.Test.YtgppfcaghjbjmaaGreatDoorBLitBase4
set_option linter.unusedSimpArgs false
set_option linter.unusedVariables false

/- name.Path. -/
section
namespace Go.Proofs.YtgppfcaghjbjmaaGreatDoor
open Go.RowKit Go.Shelf Plain
attribute [local go_sem] Oper.semAt_some

theorem pathOK_long {s : List UInt8} (h : 400 < s.length) : pathOK s = false := by unfold pathOK; rw [decide_eq_false (by omega)]; rfl
theorem pathOK_deep {s : List UInt8} (h : 16 ≤ s.count 47) : pathOK s = false := by unfold pathOK; rw [parts_length, decide_eq_false (show ¬ s.count 47 + 1 ≤ 16 by omega)]; simp
theorem pathOK_all {s : List UInt8} (h : s.length ≤ 400) (h2 : s.count 47 < 16) : pathOK s = (parts s).all nameOK := by
  unfold pathOK; rw [parts_length, decide_eq_true h, decide_eq_true (by omega)]; simp

theorem cell_new0 (W : World) (v : Value) (t : TypeId) : (W.alloc (.cells #[v] t)).cell? ⟨W.heap.size, 0, none⟩ = some v := by simp [go_sem]
theorem frozen_new0 (W : World) (v : Value) (t : TypeId) : (W.alloc (.cells #[v] t)).frozen? ⟨W.heap.size, 0, none⟩ = false := by simp [go_sem]
theorem results_cell_one {P : Program} {fn : Func} {p : Tmp} {ty : TypeId} (h : fn.results = #[.cell p ty]) (tmps : Array Value) (w : World) (a : Addr) (v : Value) (hp : tmps.getD p undef = .pointer (some a)) (hc : w.cell? a = some v)
    (hagg : ∀ w, (isAgg ty).run P w = .ok false w) : (results fn tmps).run P w = .ok v w := by
  have hp' : tmps[p]?.getD undef = .pointer (some a) := by simpa using hp
  simp [results, h, hp', asAddr, loadVar, hagg, hc, go_sem]

/-- What the loop keeps. -/
def PathI (w : World) (pre : List (List UInt8)) (W : World) : Prop :=
  (∀ x ∈ pre, nameOK x = true) ∧ Below w.heap.size w W ∧ W.cell? ⟨w.heap.size, 0, none⟩ = some (.bool false) ∧ W.frozen? ⟨w.heap.size, 0, none⟩ = false
def PathX (w : World) (pre : List (List UInt8)) (W : World) : Prop :=
  (∃ x ∈ pre, nameOK x = false) ∧ Below w.heap.size w W ∧ W.cell? ⟨w.heap.size, 0, none⟩ = some (.bool false)

set_option maxHeartbeats 4000000 in
theorem Path_any (s : List UInt8) (w : World) (hT : Tabs w) :
    Calls Tryz.prog 17 #[.string ⟨s.toArray⟩] w (Ret w (.bool (pathOK s))) := by
  by_cases h1 : 400 < s.length
  · rw [pathOK_long h1]
    have hc : decide ((400 : Int) < s.length) = true := by simp; omega
    go_enter Tryz.func17, Tryz.ntmps17
    go_wp2_with (fail)
    refine bodyPost_ret (v := .bool false) (results_cell_one Tryz.results17 _ _ ⟨w.heap.size, 0, none⟩ _ rfl ?_ Tryz.isAgg4) rfl ⟨rfl, ?_⟩
    · exact cell_new0 _ _ _
    exact (Below.refl _ _).alloc (Nat.le_refl _) _
  have hc : decide ((400 : Int) < s.length) = false := by simp; omega
  have HCnt := Lib.hid (fun W => Tryz.strings_Count_one ⟨s.toArray⟩ 47 W)
  rw [show Lib.countByte (ByteArray.mk s.toArray).data.toList 47 = s.count 47 from rfl] at HCnt
  by_cases h2 : 16 ≤ s.count 47
  · rw [pathOK_deep h2]
    generalize s.count 47 = cn at *
    have hc2 : decide ((16 : Int) ≤ cn) = true := by simp; omega
    go_enter Tryz.func17, Tryz.ntmps17
    go_wp2_with (fail)
    refine (HCnt.out _).mono ?_
    rintro e w1 ⟨rfl, rfl⟩
    go_wp2_with (fail)
    refine bodyPost_ret (v := .bool false) (results_cell_one Tryz.results17 _ _ ⟨w.heap.size, 0, none⟩ _ rfl ?_ Tryz.isAgg4) rfl ⟨rfl, ?_⟩
    · exact cell_new0 _ _ _
    exact (Below.refl _ _).alloc (Nat.le_refl _) _
  rw [pathOK_all (by omega) (by omega)]
  have hcn : s.count 47 < 16 := by omega
  have hs63 : s.length ≤ 4294967280 := by omega
  generalize s.count 47 = cn at *
  have hc2 : decide ((16 : Int) ≤ cn) = false := by simp; omega
  have HSQ := Lib.hid (fun W => SplitSeq_any s W)
  refine (callsIn_wide (n := 5)).1 ?_
  refine callsIn_of_wp_marks Tryz.func17 rfl trivial ?_ rfl
  simp only [Tryz.ntmps17, List.size_toArray, List.length_cons, List.length_nil, Nat.reduceAdd, Nat.reduceSub, Array.replicate_succ, Array.replicate_zero, List.push_toArray, List.append_toArray, List.nil_append, List.cons_append]
  gi_wp2
  refine ⟨trivial, (callsIn_wide.2 (HCnt.out _)).mono ?_⟩
  rintro e w1 ⟨rfl, rfl⟩
  gi_wp2
  refine ⟨trivial, (callsIn_wide.2 (HSQ.out _)).mono ?_⟩
  rintro e w1 ⟨rfl, hw1⟩
  have hsz : w1.heap.size = w.heap.size + 4 := by rw [hw1]; simp
  have hB0 : Below w.heap.size w w1 := by
    rw [hw1]; exact ((((Below.refl _ _).alloc (Nat.le_refl _) _).alloc (by simp) _).alloc (by simp; omega) _).alloc (by simp; omega) _
  have hc0 : w1.cell? ⟨w.heap.size, 0, none⟩ = some (.bool false) := by rw [hw1]; simp [go_sem]
  have hf0 : w1.frozen? ⟨w.heap.size, 0, none⟩ = false := by rw [hw1]; simp [go_sem]
  have hc1 : w1.cell? ⟨w.heap.size + 1, 0, none⟩ = some (.string ⟨s.toArray⟩) := by rw [hw1]; simp [go_sem]
  have hf1 : w1.frozen? ⟨w.heap.size + 1, 0, none⟩ = false := by rw [hw1]; simp [go_sem]
  have hc2' : w1.cell? ⟨w.heap.size + 1 + 1, 0, none⟩ = some (.string ⟨#[47]⟩) := by rw [hw1]; simp [go_sem]
  have hc3 : w1.cell? ⟨w.heap.size + 1 + 2, 0, none⟩ = some (.int .i64 0) := by rw [hw1]; simp [go_sem]
  rw [World.size_alloc]
  clear hw1
  have HB0 := Lib.hid hB0
  have HC := Lib.hid (And.intro hc0 (And.intro hf0 (And.intro hc1 (And.intro hf1 (And.intro hc2' hc3)))))
  have HSZ := Lib.hid hsz
  clear hsz hB0 hc0 hf0 hc1 hf1 hc2' hc3
  gi_wp2
  refine rangeFunc_own (n := 5) (gf := 65) (lb := #[.pointer (some ⟨w.heap.size + 1 + 1, 0, none⟩), .pointer (some ⟨w.heap.size + 1, 0, none⟩), .pointer (some ⟨w.heap.size + 1 + 2, 0, none⟩)]) ?c0 (enters_of Tryz.func65 (by kernel_rfl) rfl) (encs := fun x => #[.string ⟨x.toArray⟩]) (fun _ => rfl) (parts s) (PathI w) (PathX w) (w.heap.size + 1) (by rw [HSZ.out]; omega) ?hseq ?hst ?hput ?hxput ?h0
    (fun x => { tmps := #[.string ⟨s.toArray⟩, undef, .pointer (some ⟨w.heap.size, 0, none⟩), .string ⟨x.toArray⟩, .string ⟨s.toArray⟩, .int .i64 s.length, .bool false, .bool false, .string ⟨s.toArray⟩, .int .i64 cn, .bool false, .bool false, .string ⟨s.toArray⟩, .func (.func 65) #[] #[.pointer (some ⟨w.heap.size + 1 + 1, 0, none⟩), .pointer (some ⟨w.heap.size + 1, 0, none⟩), .pointer (some ⟨w.heap.size + 1 + 2, 0, none⟩)], .string ⟨x.toArray⟩, undef, undef, undef], defers := [] }) ?assign ?body ?done ?stop
  case c0 => rfl
  case hseq =>
    intro l J Jx W hold hst hY h0
    rw [HSZ.out] at hold hY
    have hcell : ∀ b, b < w.heap.size + 4 → W.cell? ⟨b, 0, none⟩ = w1.cell? ⟨b, 0, none⟩ ∧ W.frozen? ⟨b, 0, none⟩ = w1.frozen? ⟨b, 0, none⟩ := fun b hb => by
      have h := hold b hb
      unfold World.cell? World.frozen?
      simp only [h]
      exact ⟨trivial, trivial⟩
    obtain ⟨_, _, k1, k2, k3, k4⟩ := HC.out
    exact splitSeq1_in (5 - 1) l (w.heap.size + 1) (w.heap.size + 1 + 1) (w.heap.size + 1 + 2) (w.heap.size + 4) s J Jx hs63 (by omega) (by omega) (by omega) (by omega) (by omega) hY hst W
      ((hcell _ (by omega)).1.trans k1) ((hcell _ (by omega)).1.trans k3) ((hcell _ (by omega)).1.trans k4) ((hcell _ (by omega)).2.trans k2) h0
  case hst =>
    rintro pre W v ⟨h1, h2, h3, h4⟩
    exact ⟨h1, h2.setCell (by show w.heap.size ≤ w.heap.size + 1; omega) _, by rw [World.cell?_setCell_other _ _ _ _ (by intro e; injection e with e; omega)]; exact h3, by rw [World.frozen?_setCell]; exact h4⟩
  case hput =>
    rintro pre W l o hl ⟨h1, h2, h3, h4⟩
    rw [HSZ.out] at hl
    have hb := World.block_lt_of_cell? _ _ h3
    have hk : (W.putObj l o).heap[w.heap.size]? = W.heap[w.heap.size]? := World.putObj_heap_other (by omega)
    refine ⟨h1, below_put h2 (by omega) _, ?_, ?_⟩
    · rw [← h3]; unfold World.cell?; simp only [hk]
    · rw [← h4]; unfold World.frozen?; simp only [hk]
  case hxput =>
    rintro pre W l o hl ⟨h1, h2, h3⟩
    rw [HSZ.out] at hl
    have hk : (W.putObj l o).heap[w.heap.size]? = W.heap[w.heap.size]? := World.putObj_heap_other (by omega)
    refine ⟨h1, below_put h2 (by omega) _, ?_⟩
    rw [← h3]; unfold World.cell?; simp only [hk]
  case h0 =>
    intro o1 o2
    obtain ⟨k1, k2, _⟩ := HC.out
    have hlt := World.block_lt_of_cell? _ _ k1
    have hbb := (((Below.refl w1.heap.size w1).alloc (Nat.le_refl _) o1).alloc (by simp) o2)
    exact ⟨(fun x hx => by cases hx), HB0.out.trans (hbb.mono HB0.out.size), (hbb.cell (p := ⟨w.heap.size, 0, none⟩) hlt).trans k1, (hbb.frozen (p := ⟨w.heap.size, 0, none⟩) hlt).trans k2⟩
  case assign =>
    intro l x W K hK
    gi_wp2
    exact hK
  case body =>
    rintro l pre x W ⟨h1, h2, h3, h4⟩ hlt
    have hN := Name_any x W (Utf8Tabs_below hT h2)
    cases hx : nameOK x with
    | true =>
      rw [hx] at hN
      have HN := Lib.hid hN
      have HX := Lib.hid hx
      clear hN hx
      gi_wp2
      refine ⟨trivial, (CallsIn.inRound l (callsIn_wide.2 HN.out)).mono ?_⟩
      rintro e w2 ⟨rfl, hw2⟩
      gi_wp2
      have hb := World.block_lt_of_cell? _ _ h3
      refine ⟨fun k h1 h2 => hw2.block k h2, hw2.mono (by omega), fun y hy => ?_, h2.trans (hw2.mono h2.size), (hw2.cell (p := ⟨w.heap.size, 0, none⟩) hb).trans h3, (hw2.frozen (p := ⟨w.heap.size, 0, none⟩) hb).trans h4⟩
      rw [List.mem_append, List.mem_singleton] at hy
      rcases hy with hy | rfl
      · exact h1 y hy
      · exact HX.out
    | false =>
      rw [hx] at hN
      have HN := Lib.hid hN
      have HX := Lib.hid hx
      clear hN hx
      gi_wp2
      refine ⟨trivial, (CallsIn.inRound l (callsIn_wide.2 HN.out)).mono ?_⟩
      rintro e w2 ⟨rfl, hw2⟩
      have hb := World.block_lt_of_cell? _ _ h3
      have h3' := (hw2.cell (p := ⟨w.heap.size, 0, none⟩) hb).trans h3
      have h4' := (hw2.frozen (p := ⟨w.heap.size, 0, none⟩) hb).trans h4
      gi_wp2
      refine ⟨fun k q1 q2 => ?_, ⟨x, by simp, HX.out⟩, ?_, World.cell?_setCell_same' _ _ _ (by rw [h3']; rfl)⟩
      · rw [HSZ.out] at q1
        exact (Below.heap_setCell _ _ _ _ (by show k ≠ w.heap.size; omega)).trans (hw2.block k q2)
      · exact (h2.trans (hw2.mono h2.size)).setCell (Nat.le_refl _) _
  case done =>
    rintro W ⟨h1, h2, h3, h4⟩ hK
    have hall : (parts s).all nameOK = true := by rw [List.all_eq_true]; exact h1
    have HA := Lib.hid hall
    have H1 := Lib.hid h1
    clear hall h1
    have hlt := World.block_lt_of_cell? _ _ h3
    have hK' : (W.setCell ⟨w.heap.size, 0, none⟩ (.bool true)).heap[w1.heap.size]? = some (.deferred (some [])) := (Below.heap_setCell _ _ _ _ (by show w1.heap.size ≠ w.heap.size; rw [HSZ.out]; omega)).trans hK
    gi_wp2
    refine ⟨by simp, .inl ⟨_, _, rfl, run_takeDeferred hK', ?_⟩⟩
    have hcell : ((W.setCell ⟨w.heap.size, 0, none⟩ (.bool true)).putObj w1.heap.size (.deferred none)).cell? ⟨w.heap.size, 0, none⟩ = some (.bool true) := by
      have hk : ((W.setCell ⟨w.heap.size, 0, none⟩ (.bool true)).putObj w1.heap.size (.deferred none)).heap[w.heap.size]? = (W.setCell ⟨w.heap.size, 0, none⟩ (.bool true)).heap[w.heap.size]? := World.putObj_heap_other (by rw [HSZ.out]; omega)
      have h5 : (W.setCell ⟨w.heap.size, 0, none⟩ (.bool true)).cell? ⟨w.heap.size, 0, none⟩ = some (.bool true) := World.cell?_setCell_same' _ _ _ (by rw [h3]; rfl)
      rw [← h5]; unfold World.cell?; simp only [hk]
    refine ⟨_, results_cell_one Tryz.results17 _ _ ⟨w.heap.size, 0, none⟩ _ rfl hcell Tryz.isAgg4, ?_⟩
    exact ⟨by rw [HA.out], below_put (h2.setCell (Nat.le_refl _) _) (by rw [HSZ.out]; omega) _⟩
  case stop =>
    rintro pre W hpre ⟨⟨x, hx, hxf⟩, h2, h3⟩ hK
    have hall : (parts s).all nameOK = false := by
      rw [List.all_eq_false]
      exact ⟨x, hpre.subset hx, by rw [hxf]; decide⟩
    have HA := Lib.hid hall
    clear hall hx hxf
    gi_wp2
    refine ⟨by simp, .inl ⟨_, _, rfl, run_takeDeferred hK, ?_⟩⟩
    have hcell : (W.putObj w1.heap.size (.deferred none)).cell? ⟨w.heap.size, 0, none⟩ = some (.bool false) := by
      have hk : (W.putObj w1.heap.size (.deferred none)).heap[w.heap.size]? = W.heap[w.heap.size]? := World.putObj_heap_other (by rw [HSZ.out]; omega)
      rw [← h3]; unfold World.cell?; simp only [hk]
    refine ⟨_, results_cell_one Tryz.results17 _ _ ⟨w.heap.size, 0, none⟩ _ rfl hcell Tryz.isAgg4, ?_⟩
    exact ⟨by rw [HA.out], below_put h2 (by rw [HSZ.out]; omega) _⟩
end Go.Proofs.YtgppfcaghjbjmaaGreatDoor
end

/- strings' cutting at one byte. -/
section
namespace Go.Proofs.YtgppfcaghjbjmaaGreatDoor
open Go.RowKit Plain

theorem map_strs (l : List ByteArray) : l.map Value.string = strs (l.map (·.data.toList)) := by
  rw [strs, List.map_map]
  apply List.map_congr_left
  intro b _
  simp [strV]

theorem genSplit_cut (s : List UInt8) (c : UInt8) (sv : Nat) (m : Int) (w : World) (hsv : sv ≤ 1) (hs : s.length < 4294967281) (hm : w.cell? ⟨2, 0, none⟩ = some (.int .i64 m)) :
    Calls Tryz.prog 39 #[.string ⟨s.toArray⟩, .string ⟨#[c]⟩, .int .i64 sv, .int .i64 (-1)] w fun e w' =>
      e = .returned (.slice (some ⟨w.heap.size, 0, none⟩) (cutAt c (if sv = 1 then [c] else []) s).length (cutAt c (if sv = 1 then [c] else []) s).length) ∧ w' = w.alloc (.cells (strs (cutAt c (if sv = 1 then [c] else []) s)).toArray 9) := by
  have hc : s.count c ≤ s.length := List.count_le_length
  have hcB : Lib.countB ⟨s.toArray⟩ ⟨#[c]⟩ = s.count c := by
    show Lib.count s [c] = _
    rw [Lib.count_one]
  have hl := cutAt_length c (if sv = 1 then [c] else []) s
  have hsp := splitB_cut c sv hsv (s.count c) s (Nat.le_refl _)
  have h := Tryz.strings_genSplit ⟨s.toArray⟩ ⟨#[c]⟩ sv (-1) (s.count c + 1) m w (by simpa [ByteArray.size] using hs) hm (Nat.le_refl _) hsv (by decide) (by decide) (by rw [hcB, if_pos (by decide)]; simp [ByteArray.size]; omega)
  rw [Nat.add_sub_cancel] at h
  have hlen : (Lib.splitB ⟨#[c]⟩ sv (s.count c) ⟨s.toArray⟩).length = s.count c + 1 := by
    have := congrArg List.length hsp
    rw [List.length_map, hl] at this
    exact this
  rw [hlen] at h
  rw [hl]
  refine h.mono fun e w' ⟨he, hw⟩ => ⟨he, ?_⟩
  rw [hw]
  unfold Lib.cellsOf
  rw [hlen, Nat.sub_self, List.replicate_zero, List.append_nil, map_strs, hsp]
end Go.Proofs.YtgppfcaghjbjmaaGreatDoor
end

/- Lists of texts that are handed back; strings.Split at one byte. -/
section
namespace Go.Proofs.YtgppfcaghjbjmaaGreatDoor
open Go.RowKit Plain

/-- a []string that reads as l; old memory as it was -/
def StrsOut (w : World) (l : List (List UInt8)) (e : Ending) (w' : World) : Prop := ∃ A c, e = .returned (.slice A l.length c) ∧ l.length ≤ c ∧ c ≤ maxLen ∧ Reads w' 1 A l.length (strs l) ∧ Below w.heap.size w w' ∧ (A = none → c = 0)

theorem of_own0 {w : World} {base : Nat} {e : TypeId} {size n : Nat} {v : Value} {xs : List Value} (h : w.ownsRow base e size v n xs) : ∃ A c, v = .slice A n c ∧ n ≤ c ∧ c ≤ maxLen ∧ Reads w size A n xs ∧ (A = none → c = 0) := by
  obtain ⟨A, c, rfl, h1, h2, h3⟩ := IsSlice.of_own h
  refine ⟨A, c, rfl, h1, h2, h3, fun e => ?_⟩
  subst e
  rcases h.2 with ⟨hv, h0⟩ | ⟨g, cap, cur, hv, _⟩
  · injection hv
  · injection hv with e1
    cases e1

theorem laid_strs (w : World) (l : List (List UInt8)) (e : TypeId) : Reads (w.alloc (.cells (strs l).toArray e)) 1 (some ⟨w.heap.size, 0, none⟩) l.length (strs l) :=
  ⟨by rw [strs_length]; omega, fun _ => ⟨_, rfl, fun j u hj => by
    rw [show (⟨w.heap.size, 0, none⟩ : Addr).add j = ⟨w.heap.size, j, none⟩ by unfold Addr.add; split <;> simp_all, cell_of_row _ _ _ (strs l).toArray e (0, 0) (heap_alloc_new w _)]
    simpa using hj⟩⟩
theorem info_string : (Tryz.prog.info? 9).map (fun i => (i.zero, i.size, i.bytes)) = some (some (.string ByteArray.empty), 1, 16) := by kernel_rfl

theorem strSplit_any (s : List UInt8) (c : UInt8) (m : Int) (w : World) (hs : s.length < 4294967281) (hm : w.cell? ⟨2, 0, none⟩ = some (.int .i64 m)) :
    Calls Tryz.prog 24 #[.string ⟨s.toArray⟩, .string ⟨#[c]⟩] w (StrsOut w (cutAt c [] s)) := by
  have hg := genSplit_cut s c 0 m w (by omega) hs hm
  rw [if_neg (by decide)] at hg
  have hlen := cutAt_length c [] s
  have hcc : s.count c ≤ s.length := List.count_le_length
  have hle : (cutAt c [] s).length ≤ maxLen := by unfold maxLen; omega
  have hr := laid_strs w (cutAt c [] s) 9
  generalize cutAt c [] s = l at *
  have HG := Lib.hid hg
  have HR := Lib.hid hr
  clear hg hm hr hlen
  go_enter Tryz.func24, Tryz.ntmps24
  go_wp2_with (fail)
  refine HG.out.mono ?_
  rintro e w1 ⟨rfl, rfl⟩
  go_wp2_with (fail)
  go_ret
  exact ⟨_, _, rfl, Nat.le_refl _, hle, HR.out, (Below.refl _ _).alloc (Nat.le_refl _) _, fun e => by cases e⟩
end Go.Proofs.YtgppfcaghjbjmaaGreatDoor
end

/- name.Split, Parent, Base. -/
section
namespace Go.Proofs.YtgppfcaghjbjmaaGreatDoor
open Go.RowKit Plain

/-- What a call may lean on. -/
structure Laid (w : World) (m : Int) : Prop where
  tabs : Tabs w
  max : w.cell? ⟨2, 0, none⟩ = some (.int .i64 m)
theorem Laid.below {w w' : World} {m : Int} (h : Laid w m) (hb : Below w.heap.size w w') : Laid w' m :=
  ⟨Utf8Tabs_below h.tabs hb, (hb.cell (p := ⟨2, 0, none⟩) (World.block_lt_of_cell? _ _ h.max)).trans h.max⟩

def splitM (s : List UInt8) : List (List UInt8) := if pathOK s then parts s else []

theorem Split_any (s : List UInt8) (m : Int) (w : World) (hL : Laid w m) :
    Calls Tryz.prog 25 #[.string ⟨s.toArray⟩] w (StrsOut w (splitM s)) := by
  have hp := Path_any s w hL.tabs
  unfold splitM
  cases hok : pathOK s with
  | false =>
    rw [hok] at hp
    have HP := Lib.hid hp
    clear hp hok
    go_enter Tryz.func25, Tryz.ntmps25
    go_wp2_with (fail)
    refine HP.out.mono ?_
    rintro e w1 ⟨rfl, hw1⟩
    go_wp2_with (fail)
    go_ret
    exact ⟨none, 0, rfl, Nat.le_refl _, Nat.zero_le _, Reads.nil _ _ _, hw1, fun _ => rfl⟩
  | true =>
    rw [hok] at hp
    have HP := Lib.hid hp
    have hs := pathOK_len hok
    have HS := Lib.hid (fun W (hb : Below w.heap.size w W) => strSplit_any s 47 m W (by omega) (hL.below hb).max)
    clear hp hok
    rw [if_pos rfl]
    show Calls _ _ _ _ (StrsOut w (cutAt 47 [] s))
    generalize cutAt 47 [] s = l at *
    go_enter Tryz.func25, Tryz.ntmps25
    go_wp2_with (fail)
    refine HP.out.mono ?_
    rintro e w1 ⟨rfl, hw1⟩
    go_wp2_with (fail)
    refine (HS.out _ hw1).mono ?_
    rintro e w2 ⟨A, c, rfl, hc, hm, hr, hw2, h0⟩
    go_wp2_with (fail)
    go_ret
    exact ⟨A, c, rfl, hc, hm, hr, hw1.trans (hw2.mono hw1.size), h0⟩

theorem lib_none {s : List UInt8} (h : 47 ∉ s) : Lib.lastIndexByte ⟨s.toArray⟩ 47 = -1 := by
  rcases Lib.lastIndexByte_spec ⟨s.toArray⟩ 47 with ⟨e, _⟩ | ⟨i, hi, _, hc, _⟩
  · exact e
  · exfalso
    have hi' : i < s.length := by simpa [ByteArray.size] using hi
    have : (s.toArray[i]!) = s[i] := by simp [hi']
    simp only [this] at hc
    exact h (by have e : s[i] = 47 := UInt8.toNat.inj (by simpa using Int.ofNat.inj hc); rw [← e]; exact List.getElem_mem hi')
theorem lib_last (p q : List UInt8) (h : 47 ∉ q) : Lib.lastIndexByte ⟨(p ++ 47 :: q).toArray⟩ 47 = p.length := by
  have hget : ∀ j, j < (p ++ 47 :: q).length → ((p ++ 47 :: q).toArray[j]!) = (p ++ 47 :: q).getD j 0 := fun j hj => by simp [List.getD]; rfl
  have hsz : (ByteArray.mk (p ++ 47 :: q).toArray).size = (p ++ 47 :: q).length := by simp [ByteArray.size]
  have hgp : (p ++ 47 :: q).getD p.length 0 = 47 := by simp [List.getD]
  have hpl : p.length < (p ++ 47 :: q).length := by simp
  rcases Lib.lastIndexByte_spec ⟨(p ++ 47 :: q).toArray⟩ 47 with ⟨_, hn⟩ | ⟨i, hi, e, hc, hn⟩
  · exfalso
    have := hn p.length (by rw [hsz]; exact hpl)
    simp only [hget _ hpl, hgp] at this
    exact this rfl
  · rw [e]
    rw [hsz] at hi hn
    simp only [hget _ hi] at hc
    rcases Nat.lt_trichotomy i p.length with hlt | heq | hgt
    · exfalso
      have := hn p.length hlt hpl
      simp only [hget _ hpl, hgp] at this
      exact this rfl
    · rw [heq]
    · exfalso
      have e2 : (p ++ 47 :: q).getD i 0 = 47 := UInt8.toNat.inj (by simpa using Int.ofNat.inj hc)
      obtain ⟨k, rfl⟩ : ∃ k, i = p.length + 1 + k := ⟨i - p.length - 1, by omega⟩
      have e3 : (p ++ 47 :: q).getD (p.length + 1 + k) 0 = q.getD k 0 := by
        simp only [List.getD]
        rw [List.getElem?_append_right (by omega), show p.length + 1 + k - p.length = k + 1 by omega]; rfl
      rw [e3] at e2
      have hk : k < q.length := by simp at hi; omega
      exact h (by rw [← e2]; simp [List.getD, hk])
theorem LastIndexS_any (s : List UInt8) (w : World) (hs : s.length ≤ 9223372036854775807) :
    Calls Tryz.prog 64 #[.string ⟨s.toArray⟩, .int .u8 47] w (Ret w (.int .i64 (Lib.lastIndexByte ⟨s.toArray⟩ 47))) := by
  have hsz : (ByteArray.mk s.toArray).size = s.length := by simp [ByteArray.size]
  have HL := Lib.hid (show Lib.lastIndexByte ⟨s.toArray⟩ 47 = Lib.lastIdx ⟨s.toArray⟩ 47 s.length by unfold Lib.lastIndexByte; rw [hsz])
  clear hsz
  go_enter Tryz.func64, Tryz.ntmps64
  go_wp2_with (fail)
  go_loopw [5] (fun t4 W => ∃ k : Nat, k ≤ s.length ∧ t4 = .int .i64 ((k : Int) - 1) ∧ Hid (Lib.lastIdx ⟨s.toArray⟩ 47 s.length = Lib.lastIdx ⟨s.toArray⟩ 47 k) ∧ Hid (Below w.heap.size w W)) (fun t4 _ => (intOf t4 + 1).toNat)
  case atStart => exact ⟨s.length, by omega, rfl, Lib.hid rfl, Lib.hid (Below.refl _ _)⟩
  case round =>
    obtain ⟨k, hk, rfl, HI, HB⟩ := hrel
    by_cases h0 : k = 0
    · subst h0
      go_wp2_with (fail)
      go_ret
      exact ⟨by rw [HL.out, HI.out]; rfl, HB.out⟩
    · obtain ⟨j, rfl⟩ : ∃ j, k = j + 1 := ⟨k - 1, by omega⟩
      have e1 : ((j + 1 : Nat) : Int) - 1 = j := by omega
      rw [e1]
      have i0 : (0 : Int) ≤ j := by omega
      have i1 : (j : Int) < s.length := by omega
      have hg : (s.toArray[j]!) = s[j]'(by omega) := by simp [show j < s.length by omega]
      have hn1 : ((j : Int)).toNat = j := by omega
      generalize hx : s[j]'(by omega) = x at *
      by_cases h47 : (x.toNat : Int) = 47
      · have HR := Lib.hid (HI.out.trans (Lib.lastIdx_hit ⟨s.toArray⟩ 47 j (by simp only [hg]; exact h47)))
        have hB : ((x.toNat : Int) == 47) = true := by simpa using h47
        clear h47 hg h0 e1
        go_wp2_with (fail)
        go_ret
        exact ⟨by rw [HL.out, HR.out]; rfl, HB.out⟩
      · have HR := Lib.hid (HI.out.trans (Lib.lastIdx_miss ⟨s.toArray⟩ 47 j (by simp only [hg]; exact h47)))
        have hB : ((x.toNat : Int) == 47) = false := by simpa using h47
        clear h47 hg h0 e1
        go_wp2_with (fail)
        go_roundw
        case rel => exact ⟨j, by omega, by go_num, HR, HB⟩
        case measure => simp [intOf]
theorem LastIndex_any (s : List UInt8) (w : World) (hs : s.length ≤ 9223372036854775807) :
    Calls Tryz.prog 42 #[.string ⟨s.toArray⟩, .int .u8 47] w (Ret w (.int .i64 (Lib.lastIndexByte ⟨s.toArray⟩ 47))) := by
  have HC := Lib.hid (LastIndexS_any s w hs)
  go_enter Tryz.func42, Tryz.ntmps42
  go_wp2_with (fail)
  refine HC.out.mono ?_
  rintro e w1 ⟨rfl, hw1⟩
  go_wp2_with (fail)
  go_ret
  exact ⟨rfl, hw1⟩


theorem Base_any (s : List UInt8) (w : World) (hT : Tabs w) (hs : s.length ≤ 9223372036854775807) :
    Calls Tryz.prog 27 #[.string ⟨s.toArray⟩] w (Ret w (.string ⟨(baseM s).toArray⟩)) := by
  have hp := Path_any s w hT
  have hl := fun W => LastIndex_any s W hs
  cases hok : pathOK s with
  | false =>
    rw [hok] at hp
    have HB := Lib.hid (show baseM s = [] by unfold baseM; rw [hok]; rfl)
    have HP := Lib.hid hp
    clear hp hok hl
    go_enter Tryz.func27, Tryz.ntmps27
    go_wp2_with (fail)
    refine HP.out.mono ?_
    rintro e w1 ⟨rfl, hw1⟩
    go_wp2_with (fail)
    go_ret
    exact ⟨by rw [HB.out]; rfl, hw1⟩
  | true =>
    rw [hok] at hp
    have HP := Lib.hid hp
    clear hp
    by_cases h47 : 47 ∈ s
    · obtain ⟨p, q, rfl, hq⟩ := last_cut h47
      rw [lib_last p q hq] at hl
      have HB := Lib.hid (base_cut p q hq hok)
      have hd : (p ++ 47 :: q).drop (p.length + 1) = q := by rw [← List.drop_drop, List.drop_left' rfl]; rfl
      have hd2 : q.take ((p ++ 47 :: q).length - (p.length + 1)) = q := List.take_of_length_le (by simp; omega)
      have hpl : p.length + 1 ≤ (p ++ 47 :: q).length := by simp
      clear hok h47
      generalize p ++ 47 :: q = s at *
      have HL := Lib.hid hl
      clear hl
      go_enter Tryz.func27, Tryz.ntmps27
      go_wp2_with (fail)
      refine HP.out.mono ?_
      rintro e w1 ⟨rfl, hw1⟩
      go_wp2_with (fail)
      refine (HL.out _).mono ?_
      rintro e w2 ⟨rfl, hw2⟩
      go_wp2_with (fail)
      go_ret
      exact ⟨by rw [HB.out]; rfl, hw1.trans (hw2.mono hw1.size)⟩
    · rw [lib_none h47] at hl
      have HB := Lib.hid (base_none h47 hok)
      have HL := Lib.hid hl
      clear hl hok h47
      go_enter Tryz.func27, Tryz.ntmps27
      go_wp2_with (fail)
      refine HP.out.mono ?_
      rintro e w1 ⟨rfl, hw1⟩
      go_wp2_with (fail)
      refine (HL.out _).mono ?_
      rintro e w2 ⟨rfl, hw2⟩
      go_wp2_with (fail)
      go_ret
      exact ⟨by rw [HB.out]; simp, hw1.trans (hw2.mono hw1.size)⟩

theorem HasPrefix_any (s p : List UInt8) (w : World) :
    Calls Tryz.prog 30 #[.string ⟨s.toArray⟩, .string ⟨p.toArray⟩] w (Ret w (.bool (p.isPrefixOf s))) :=
  (Tryz.strings_HasPrefix ⟨s.toArray⟩ ⟨p.toArray⟩ w).mono fun _ _ ⟨he, hw⟩ => ⟨he, hw ▸ Below.refl _ _⟩
end Go.Proofs.YtgppfcaghjbjmaaGreatDoor
end

/- glob.parts, glob.Match. -/
section
namespace Go.Proofs.YtgppfcaghjbjmaaGreatDoor
open Go.RowKit Go.Maps Plain

@[go_sem] theorem run_store_fn {P : Program} {w : World} {a : Addr} {m : Mode} (fn : Fn) (first captured : Array Value) : (store a (.func fn first captured) m).run P w = stored P w a (.func fn first captured) m := run_store P w a _ m rfl

set_option maxHeartbeats 1000000 in
theorem parts_any (p n : List (List UInt8)) (Ap An : Option Addr) (cp cn : Nat) (w : World) (hT : Tabs w)
    (hp : Reads w 1 Ap p.length (strs p)) (hn : Reads w 1 An n.length (strs n)) (hpl : p.length ≤ 65536) (hnl : n.length ≤ 65536)
    (hpo : ∀ x ∈ p, Lib.validD x = true ∧ wfP x = true ∧ x.length ≤ 65536) (hno : ∀ x ∈ n, Lib.validD x = true ∧ x.length ≤ 65536) :
    Calls Tryz.prog 23 #[.slice Ap p.length cp, .slice An n.length cn] w (Ret w (.bool (partsP p n))) := by
  have hd := fun bp bn bs bd bm hbm W hS => down_any w p n Ap An cp cn bp bn bs bd bm hT hbm hp hn hpl hnl hpo hno _ 0 0 W (Nat.le_refl _) (Nat.zero_le _) (Nat.zero_le _) hS
  have HD := Lib.hid hd
  have hmf : ∀ fn first cap W, (Instr.makeFunc fn first cap).run Tryz.prog W = .ok (.func fn first cap) W := fun _ _ _ _ => rfl
  have hmm : ∀ W : World, (Instr.makeMap 65 none).run Tryz.prog W = .ok (.map (some W.heap.size)) (W.alloc (.map #[] 0)) := fun _ => rfl
  clear hd hT hp hn hpl hnl hpo hno
  go_enter Tryz.func23, Tryz.ntmps23
  go_wp2_with (fail)
  generalize hW : ((((w.alloc (Obj.cells #[Value.slice Ap p.length cp] 38)).alloc (Obj.cells #[Value.slice An n.length cn] 38)).alloc (Obj.map #[] 0)).alloc (Obj.cells #[Value.map (some (w.heap.size + 1 + 1))] 65)).alloc _ = W
  have hmade := MapIs.made ((w.alloc (Obj.cells #[Value.slice Ap p.length cp] 38)).alloc (Obj.cells #[Value.slice An n.length cn] 38)) Tryz.prog 67
  have hb2 := fun o1 o2 => ((Below.refl _ (((w.alloc (Obj.cells #[Value.slice Ap p.length cp] 38)).alloc (Obj.cells #[Value.slice An n.length cn] 38)).alloc (Obj.map #[] 0))).alloc (Nat.le_refl _) o1).alloc (by simp) o2
  have hS : DS w p n Ap An cp cn w.heap.size (w.heap.size + 1) (w.heap.size + 1 + 1 + 1) (w.heap.size + 1 + 1 + 1 + 1) (w.heap.size + 1 + 1) W := by
    refine ⟨?_, ?_, ?_, ?_, ?_, 0, (fun _ => none), ?_, fun i j h => (by cases h), fun x v h => (by cases h)⟩
    · rw [← hW]; exact (((((Below.refl _ w).alloc (Nat.le_refl _) _).alloc (by simp) _).alloc (by simp; omega) _).alloc (by simp; omega) _).alloc (by simp; omega) _
    · rw [← hW]; simp [go_sem]
    · rw [← hW]; simp [go_sem]
    · rw [← hW]; simp [go_sem]
    · rw [← hW]; simp [go_sem]
    · rw [← hW]
      have := fun o2 => hmade.below (hb2 (Obj.cells #[Value.map (some (w.heap.size + 1 + 1))] 65) o2)
      simpa using this _
  refine (HD.out _ _ _ _ _ (by omega) W hS).mono ?_
  rintro e w1 ⟨rfl, hS1⟩
  have HB := Lib.hid hS1.below
  clear hS1 hS hW hmade hb2
  go_wp2_with (fail)
  go_ret
  exact ⟨by simp, HB.out⟩

theorem matchG_off {p s : List UInt8} (h : okG p = false ∨ pathOK s = false) : matchG p s = false := by
  unfold matchG
  rcases h with h | h
  · rw [h]; rfl
  · rw [h, Bool.and_false]; rfl
theorem matchG_slash {p s : List UInt8} (h1 : okG p = true) (h2 : pathOK s = true) (h3 : p ≠ [42, 42]) (h4 : 47 ∈ p) : matchG p s = partsP (parts p) (parts s) := by
  unfold matchG; rw [h1, h2, if_neg h3, if_pos h4]; rfl
theorem matchG_base {p s : List UInt8} (h1 : okG p = true) (h2 : pathOK s = true) (h3 : p ≠ [42, 42]) (h4 : 47 ∉ p) : matchG p s = partP p (baseM s) := by
  unfold matchG; rw [h1, h2, if_neg h3, if_neg h4]; rfl
theorem sum_mem {l : List (List UInt8)} {x : List UInt8} (h : x ∈ l) : x.length ≤ (joinS l).length := by
  rw [join_length]
  have : ∀ {l : List (List UInt8)}, x ∈ l → x.length ≤ (l.map List.length).sum := by
    intro l
    induction l with
    | nil => intro h; cases h
    | cons y l ih =>
      intro h
      rw [List.map_cons, List.sum_cons]
      rcases List.mem_cons.1 h with rfl | h
      · omega
      · have := ih h; omega
  have := this h
  omega
theorem part_len {s x : List UInt8} (h : x ∈ parts s) : x.length ≤ s.length := by
  have := sum_mem h
  rwa [join_parts] at this
theorem name_valid {x : List UInt8} (h : nameOK x = true) : Lib.validD x = true := by
  unfold nameOK at h
  simp only [Bool.and_eq_true] at h
  exact h.1.1.2
theorem contains_slash (p : List UInt8) : Lib.indexByte p 47 = -1 ↔ 47 ∉ p := by
  constructor
  · intro h hm
    obtain ⟨q, r, rfl, hq⟩ := first_c (c := 47) p hm
    rw [ib_first q r hq] at h
    omega
  · exact ib_none

set_option maxHeartbeats 2000000 in
theorem Match_all (p s : List UInt8) (m : Int) (w : World) (hL : Laid w m) :
    Calls Tryz.prog 11 #[.string ⟨p.toArray⟩, .string ⟨s.toArray⟩] w (Ret w (.bool (matchG p s))) := by
  have hC := Check_all p w hL.tabs
  have HL := Lib.hid (fun W (h : Below w.heap.size w W) => hL.below h)
  have HPP := Lib.hid (fun W (h : Laid W m) => Path_any s W h.tabs)
  cases hok : okG p with
  | false =>
    have HR := Lib.hid (matchG_off (s := s) (.inl hok))
    have he : (((checkP 400 p).2 : Int) != 0) = true := by
      unfold okG at hok
      rw [beq_eq_false_iff_ne] at hok
      rw [bne_iff_ne]; omega
    generalize (checkP 400 p).2 = e at *
    generalize (checkP 400 p).1 = k at *
    have HC := Lib.hid hC
    clear hC hok hL HL HPP
    go_enter Tryz.func11, Tryz.ntmps11
    go_wp2_with (fail)
    refine HC.out.mono ?_
    rintro e w1 ⟨rfl, hw1⟩
    go_wp2_with (fail)
    go_ret
    exact ⟨by rw [HR.out]; rfl, hw1⟩
  | true =>
    have hck := okG_ok hok
    have he : (checkP 400 p).2 = 0 := okG_iff.1 hok
    rw [he] at hC
    generalize (checkP 400 p).1 = k at *
    have HC := Lib.hid hC
    clear hC he
    cases hpa : pathOK s with
    | false =>
      have HR := Lib.hid (matchG_off (p := p) (.inr hpa))
      rw [hpa] at HPP
      clear hok hL hpa hck
      go_enter Tryz.func11, Tryz.ntmps11
      go_wp2_with (fail)
      refine HC.out.mono ?_
      rintro e w1 ⟨rfl, hw1⟩
      go_wp2_with (fail)
      refine (HPP.out _ (HL.out _ hw1)).mono ?_
      rintro e w2 ⟨rfl, hw2⟩
      go_wp2_with (fail)
      go_ret
      exact ⟨by rw [HR.out]; rfl, hw1.trans (hw2.mono hw1.size)⟩
    | true =>
      rw [hpa] at HPP
      by_cases h2 : p = [42, 42]
      · subst h2
        have HR := Lib.hid (matchG_2stars hpa)
        clear hok hL hpa hck
        go_enter Tryz.func11, Tryz.ntmps11
        go_wp2_with (fail)
        refine HC.out.mono ?_
        rintro e w1 ⟨rfl, hw1⟩
        go_wp2_with (fail)
        refine (HPP.out _ (HL.out _ hw1)).mono ?_
        rintro e w2 ⟨rfl, hw2⟩
        go_wp2_with (fail)
        go_ret
        exact ⟨by rw [HR.out]; rfl, hw1.trans (hw2.mono hw1.size)⟩
      have h2b : (p == [42, 42]) = false := by rw [beq_eq_false_iff_ne]; exact h2
      have hcon := fun W => Tryz.strings_Contains_one ⟨p.toArray⟩ 47 W
      obtain ⟨hne, h400, hv, hparts⟩ := hck
      have hs400 := pathOK_len hpa
      have hnames := fun x (hx : x ∈ parts s) => name_valid (pathOK_mem hpa hx)
      by_cases h47 : 47 ∈ p
      · have hct : decide (0 ≤ Lib.indexByte p 47) = true := by
          rw [decide_eq_true_eq]
          obtain ⟨q, r, e, hq⟩ := first_c (c := 47) p h47
          rw [e, ib_first q r hq]; omega
        rw [show (ByteArray.mk p.toArray).data.toList = p from rfl, hct] at hcon
        have HR := Lib.hid (matchG_slash hok hpa h2 h47)
        have HCON := Lib.hid hcon
        have HSP := Lib.hid (fun W (h : Laid W m) => strSplit_any p 47 m W (by omega) h.max)
        have hns := fun W (h : Laid W m) => Split_any s m W h
        rw [show splitM s = parts s by unfold splitM; rw [hpa]; rfl] at hns
        have HNS := Lib.hid hns
        have hpl1 : (parts p).length ≤ 65536 := by rw [parts_length]; have := List.count_le_length (a := (47 : UInt8)) (l := p); omega
        have hpl2 : (parts s).length ≤ 65536 := by rw [parts_length]; have := List.count_le_length (a := (47 : UInt8)) (l := s); omega
        have HPA := Lib.hid (fun A c B d W (hT : Tabs W) h1 h2 => parts_any (parts p) (parts s) A B c d W hT h1 h2 hpl1 hpl2 (fun x hx => ⟨(hparts x hx).1, (hparts x hx).2, by have := part_len hx; omega⟩) (fun x hx => ⟨hnames x hx, by have := part_len hx; omega⟩))
        have HPE := Lib.hid (show parts p = cutAt 47 [] p from rfl)
        clear hok hL hpa hcon hct hns hnames hparts hv hpl1 hpl2 h47 h2
        rw [← HPE.out] at HSP
        generalize parts p = lp at *
        generalize parts s = ls at *
        go_enter Tryz.func11, Tryz.ntmps11
        go_wp2_with (fail)
        refine HC.out.mono ?_
        rintro e w1 ⟨rfl, hw1⟩
        go_wp2_with (fail)
        refine (HPP.out _ (HL.out _ hw1)).mono ?_
        rintro e w2 ⟨rfl, hw2⟩
        have hB2 := hw1.trans (hw2.mono hw1.size)
        clear hw1 hw2
        go_wp2_with (fail)
        refine (HCON.out _).mono ?_
        rintro e w2b ⟨rfl, rfl⟩
        go_wp2_with (fail)
        refine (HSP.out _ (HL.out _ hB2)).mono ?_
        rintro e w3 ⟨A, c, rfl, hc, hm, hr, hw3, hA0⟩
        have hB3 := hB2.trans (hw3.mono hB2.size)
        clear hw3 hB2
        go_wp2_with (fail)
        refine (HNS.out _ (HL.out _ hB3)).mono ?_
        rintro e w4 ⟨B, d, rfl, hd, hm2, hr2, hw4, hA02⟩
        have hB4 := hB3.trans (hw4.mono hB3.size)
        have hr4 := hr.below hw4
        clear hw4 hB3 hr
        go_wp2_with (fail)
        refine (HPA.out A c B d w4 (HL.out _ hB4).tabs hr4 hr2).mono ?_
        rintro e w5 ⟨rfl, hw5⟩
        go_wp2_with (fail)
        go_ret
        exact ⟨by rw [HR.out]; rfl, hB4.trans (hw5.mono hB4.size)⟩
      · have hct : decide (0 ≤ Lib.indexByte p 47) = false := by
          rw [decide_eq_false_iff_not, ib_none h47]; omega
        rw [show (ByteArray.mk p.toArray).data.toList = p from rfl, hct] at hcon
        have hpp : Lib.validD p = true ∧ wfP p = true := hparts p (by rw [parts_none p h47]; simp)
        have hbv : Lib.validD (baseM s) = true ∧ (baseM s).length ≤ s.length := by
          rw [base_last hpa]
          have hm : (parts s).getLast (parts_ne s) ∈ parts s := List.getLast_mem _
          exact ⟨hnames _ hm, part_len hm⟩
        have HR := Lib.hid (matchG_base hok hpa h2 h47)
        have HCON := Lib.hid hcon
        have HBS := Lib.hid (fun W (h : Laid W m) => Base_any s W h.tabs (by omega))
        have HPT := Lib.hid (fun W (h : Laid W m) => part_any p (baseM s) W h.tabs hpp.1 hpp.2 hbv.1 (by omega) (by omega))
        clear hok hL hpa hcon hct hnames hparts hv hpp hbv h47 h2
        generalize baseM s = bs at *
        go_enter Tryz.func11, Tryz.ntmps11
        go_wp2_with (fail)
        refine HC.out.mono ?_
        rintro e w1 ⟨rfl, hw1⟩
        go_wp2_with (fail)
        refine (HPP.out _ (HL.out _ hw1)).mono ?_
        rintro e w2 ⟨rfl, hw2⟩
        have hB2 := hw1.trans (hw2.mono hw1.size)
        clear hw1 hw2
        go_wp2_with (fail)
        refine (HCON.out _).mono ?_
        rintro e w2b ⟨rfl, rfl⟩
        go_wp2_with (fail)
        refine (HBS.out _ (HL.out _ hB2)).mono ?_
        rintro e w3 ⟨rfl, hw3⟩
        have hB3 := hB2.trans (hw3.mono hB2.size)
        clear hw3 hB2
        go_wp2_with (fail)
        refine (HPT.out _ (HL.out _ hB3)).mono ?_
        rintro e w4 ⟨rfl, hw4⟩
        go_wp2_with (fail)
        go_ret
        exact ⟨by rw [HR.out]; rfl, hB3.trans (hw4.mono hB3.size)⟩
theorem Match_any (p s : List UInt8) (m : Int) (w : World) (hL : Laid w m) (_ : p.length ≤ 9223372036854775807) (_ : s.length ≤ 9223372036854775807) :
    Calls Tryz.prog 11 #[.string ⟨p.toArray⟩, .string ⟨s.toArray⟩] w (Ret w (.bool (matchG p s))) := Match_all p s m w hL
end Go.Proofs.YtgppfcaghjbjmaaGreatDoor
end

/- hawserlaw02.awake. -/
section
namespace Go.Proofs.YtgppfcaghjbjmaaGreatDoor
open Go.RowKit Plain

section
variable {R : Type}
def starE (g : List R → Bool) : List R → Bool
  | [] => g []
  | r :: n => g (r :: n) || starE g n
/-- the same as matchT, in a form that reduces -/
def matchE : List (Option (R → Bool)) → List R → Bool
  | [] => fun n => n.isEmpty
  | none :: p => fun n => starE (matchE p) n
  | some f :: p => fun n => match n with
    | [] => false
    | r :: n => f r && matchE p n
theorem matchE_T : ∀ (p : List (Option (R → Bool))) (n : List R), matchT p n = matchE p n
  | [], n => by simp only [matchT]; rfl
  | some f :: p, [] => by simp only [matchT]; rfl
  | some f :: p, r :: n => by
    simp only [matchT]
    rw [matchE_T p n]; rfl
  | none :: p, n => by
    rw [matchT_none]
    show _ = starE (matchE p) n
    induction n with
    | nil => rw [matchS_nil, matchE_T p]; rfl
    | cons r n ih => rw [matchS_cons, matchE_T p, ih]; rfl
end
def partE (p n : List UInt8) : Bool := matchE (toksP p) (runesP n)
def partsE (l n : List (List UInt8)) : Bool := matchE (l.map fun p => if p = [42, 42] then none else some (partE p)) n
theorem partE_P : partP = partE := by funext p n; unfold partP partE; rw [matchE_T]
theorem partsE_P (l n : List (List UInt8)) : partsP l n = partsE l n := by
  unfold partsP partsE
  rw [matchE_T, show partsTok = fun p => if p = [42, 42] then none else some (partE p) from by funext p; unfold partsTok; rw [partE_P]]
theorem awg1 : matchG [97, 47, 42, 46, 103, 111] [97, 47, 98, 46, 103, 111] = true := by
  rw [matchG_slash (by decide +kernel) (by decide +kernel) (by decide) (by decide), partsE_P]; decide +kernel
theorem awg2 : matchG [97, 47, 42, 46, 103, 111] [97, 47, 99, 47, 98, 46, 103, 111] = false := by
  rw [matchG_slash (by decide +kernel) (by decide +kernel) (by decide) (by decide), partsE_P]; decide +kernel
theorem awg3 : matchG [42, 46, 103, 111] [97, 47, 99, 47, 98, 46, 103, 111] = true := by
  rw [matchG_base (by decide +kernel) (by decide +kernel) (by decide) (by decide), partE_P]; decide +kernel

theorem awake_any (m : Int) (w : World) (hL : Laid w m) : Calls Tryz.prog 5 #[] w (Ret w (.bool true)) := by
  have hM := fun p s W (h : Below w.heap.size w W) (hp : p.length ≤ 100) (hs : s.length ≤ 100) => Match_any p s m W (hL.below h) (by omega) (by omega)
  have h1 := fun W h => hM [97, 47, 42, 46, 103, 111] [97, 47, 98, 46, 103, 111] W h (by decide) (by decide)
  have h2 := fun W h => hM [97, 47, 42, 46, 103, 111] [97, 47, 99, 47, 98, 46, 103, 111] W h (by decide) (by decide)
  have h3 := fun W h => hM [42, 46, 103, 111] [97, 47, 99, 47, 98, 46, 103, 111] W h (by decide) (by decide)
  rw [awg1] at h1
  rw [awg2] at h2
  rw [awg3] at h3
  have H1 := Lib.hid h1
  have H2 := Lib.hid h2
  have H3 := Lib.hid h3
  clear h1 h2 h3 hM hL
  go_enter Tryz.func5, Tryz.ntmps5
  go_wp2_with (fail)
  refine (H1.out w (Below.refl _ _)).mono ?_
  rintro e w1 ⟨rfl, hB1⟩
  go_wp2_with (fail)
  refine (H2.out w1 hB1).mono ?_
  rintro e w2 ⟨rfl, hw2⟩
  have hB2 := hB1.trans (hw2.mono hB1.size)
  clear hw2 hB1
  go_wp2_with (fail)
  refine (H3.out w2 hB2).mono ?_
  rintro e w3 ⟨rfl, hw3⟩
  have hB3 := hB2.trans (hw3.mono hB2.size)
  clear hw3 hB2
  go_wp2_with (fail)
  go_ret
  exact ⟨rfl, hB3⟩
end Go.Proofs.YtgppfcaghjbjmaaGreatDoor
end

/- Plain laws for the document's reader of patterns: runes by the bytes behind their first, the first byte that is part of no rune, what stands between brackets ends with no lone backslash. No program in sight. -/
section
namespace Go.Proofs.YtgppfcaghjbjmaaGreatDoor.Plain
open Go.Lib

def contB (c : UInt8) : Bool := decide (128 ≤ c.toNat) && decide (c.toNat ≤ 191)
theorem contB_iff {c : UInt8} : contB c = true ↔ 128 ≤ c.toNat ∧ c.toNat ≤ 191 := by unfold contB; simp
theorem form_cont {t : List UInt8} {v : Nat} (h : Form t v) : (∀ i, 1 ≤ i → i < t.length → contB (t.getD i 0) = true) ∧ contB (t.getD 0 0) = false := by
  have hf : ∀ c : UInt8, (c.toNat < 128 ∨ 192 ≤ c.toNat) → contB c = false := fun c hc => by
    rw [← Bool.not_eq_true, contB_iff]; omega
  cases h with
  | one a ha => exact ⟨fun i h1 h2 => by simp at h2; omega, hf _ (by simpa using .inl ha)⟩
  | two a b _ ha hb _ _ =>
    refine ⟨fun i h1 h2 => ?_, hf _ (by right; show 192 ≤ a.toNat; omega)⟩
    simp at h2
    obtain rfl : i = 1 := by omega
    rw [contB_iff]; show 128 ≤ b.toNat ∧ b.toNat ≤ 191; omega
  | three a b c _ ha hb hc _ _ =>
    refine ⟨fun i h1 h2 => ?_, hf _ (by right; show 192 ≤ a.toNat; omega)⟩
    simp at h2
    rw [contB_iff]
    rcases (show i = 1 ∨ i = 2 by omega) with rfl | rfl
    · show 128 ≤ b.toNat ∧ b.toNat ≤ 191; omega
    · show 128 ≤ c.toNat ∧ c.toNat ≤ 191; omega
  | four a b c d _ ha hb hc hd _ _ =>
    refine ⟨fun i h1 h2 => ?_, hf _ (by right; show 192 ≤ a.toNat; omega)⟩
    simp at h2
    rw [contB_iff]
    rcases (show i = 1 ∨ i = 2 ∨ i = 3 by omega) with rfl | rfl | rfl
    · show 128 ≤ b.toNat ∧ b.toNat ≤ 191; omega
    · show 128 ≤ c.toNat ∧ c.toNat ≤ 191; omega
    · show 128 ≤ d.toNat ∧ d.toNat ≤ 191; omega
theorem runeT_getD {l : List UInt8} {i : Nat} (h : i < runeW l) : (runeT l).getD i 0 = l.getD i 0 := by
  unfold runeT
  rw [List.getD_eq_getElem?_getD, List.getD_eq_getElem?_getD, List.getElem?_take_of_lt h]
/-- the bytes of a rune behind its first one, and the byte behind the rune -/
theorem rune_cont {l : List UInt8} (hne : l ≠ []) (hv : validD l = true) : (∀ i, 1 ≤ i → i < runeW l → contB (l.getD i 0) = true) ∧ contB (l.getD 0 0) = false := by
  obtain ⟨h1, _⟩ := valid_next hne hv
  obtain ⟨hr, _, hlen⟩ := runeT_rune hne h1
  obtain ⟨a, b⟩ := form_cont (rune_form hr)
  refine ⟨fun i q1 q2 => ?_, ?_⟩
  · rw [← runeT_getD q2]; exact a i q1 (by rw [hlen]; exact q2)
  · rw [← runeT_getD (show 0 < runeW l by omega)]; exact b
theorem rune_stop {l : List UInt8} (hne : l ≠ []) (hv : validD l = true) (h : runeW l < l.length) : contB (l.getD (runeW l) 0) = false := by
  obtain ⟨_, hv2⟩ := valid_next hne hv
  have hne2 : l.drop (runeW l) ≠ [] := by intro e; have := congrArg List.length e; simp at this; omega
  have := (rune_cont hne2 hv2).2
  rw [List.getD_eq_getElem?_getD, List.getElem?_drop, Nat.add_zero, ← List.getD_eq_getElem?_getD] at this
  exact this

/-- no lone backslash at the end -/
def evenR : Bool → List (List UInt8) → Bool
  | e, [] => !e
  | e, x :: l => if x = [92] ∧ e = false then evenR true l else evenR false l
theorem closeF_skip (from' : Nat) : ∀ (k : Nat) (r : List UInt8) (i : Nat), (∀ j, j < k → 128 ≤ (r.getD j 0).toNat) → k ≤ r.length → closeF from' i r = closeF from' (i + k) (r.drop k) := by
  intro k
  induction k with
  | zero => intro r i _ _; simp
  | succ k ih =>
    intro r i h hk
    cases r with
    | nil => simp at hk
    | cons c r =>
      have h0 : 128 ≤ c.toNat := by simpa using h 0 (by omega)
      have e : closeF from' i (c :: r) = closeF from' (i + 1) r := by
        conv => lhs; unfold closeF
        rw [if_neg (fun e => by subst e; revert h0; decide), if_neg (fun e => by subst e; revert h0; decide), if_neg (fun e => by subst e; revert h0; decide)]
      rw [e, ih r (i + 1) (fun j hj => by simpa using h (j + 1) (by omega)) (by simpa using hk), List.drop_succ_cons]
      congr 1; omega
theorem runes_take {l : List UInt8} {n : Nat} (hne : l ≠ []) (hw : 1 ≤ runeW l) (h : runeW l ≤ n) (hn : n ≤ l.length) : runesP (l.take n) = runeT l :: runesP ((l.drop (runeW l)).take (n - runeW l)) := by
  have hne2 : l.take n ≠ [] := by
    intro e
    have h0 : (l.take n).length = 0 := by rw [e]; rfl
    have hl : 0 < l.length := List.length_pos_iff.2 hne
    rw [List.length_take] at h0
    omega
  have hwt := runeW_take hw h hn
  rw [runesP_step hne2 (by rw [hwt]; exact hw), hwt]
  congr 1
  · unfold runeT
    rw [hwt, List.take_take, Nat.min_eq_left h]
  · rw [List.drop_take]
theorem inner_even (from' : Nat) : ∀ (m : Nat) (r : List UInt8) (i e : Nat), r.length ≤ m → validD r = true → closeF from' i r = some e → evenR false (runesP (r.take (e - i))) = true := by
  intro m
  induction m with
  | zero =>
    intro r i e h _ hc
    have : r = [] := List.eq_nil_of_length_eq_zero (by omega)
    subst this
    simp [closeF] at hc
  | succ m ih =>
    intro r i e h hv hc
    cases r with
    | nil => simp [closeF] at hc
    | cons c q =>
      have hb0 := closeF_le from' _ (c :: q) i e (Nat.le_refl _) hc
      simp only [List.length_cons] at h
      by_cases h93 : c = 93
      · subst h93
        unfold closeF at hc
        rw [if_neg (by decide), if_neg (by decide), if_pos rfl] at hc
        split at hc
        · cases hc
        · injection hc with hc
          subst hc
          rw [Nat.sub_self, List.take_zero]; rfl
      by_cases h92 : c = 92
      · subst h92
        unfold closeF at hc
        rw [if_neg (by decide), if_pos rfl] at hc
        cases q with
        | nil => cases hc
        | cons d r' =>
          simp only at hc
          split at hc
          · cases hc
          have hvd : validD (d :: r') = true := by rwa [validD_cons _ _ (by decide)] at hv
          have hdne : (d :: r') ≠ [] := by simp
          obtain ⟨w1, w2⟩ := valid_next hdne hvd
          have hwl := runeW_le' hdne
          have hcont := (rune_cont hdne hvd).1
          have hsk := closeF_skip from' (runeW (d :: r') - 1) r' (i + 2) (fun j hj => by
            have := (contB_iff.1 (hcont (j + 1) (by omega) (by omega))).1
            simpa using this) (by simp at hwl; omega)
          rw [hc] at hsk
          have hdr : r'.drop (runeW (d :: r') - 1) = (d :: r').drop (runeW (d :: r')) := by
            conv => rhs; rw [show runeW (d :: r') = (runeW (d :: r') - 1) + 1 by omega]
            rw [List.drop_succ_cons]
          rw [hdr, show i + 2 + (runeW (d :: r') - 1) = i + 1 + runeW (d :: r') by omega] at hsk
          have hb := closeF_le from' _ _ _ _ (Nat.le_refl _) hsk.symm
          have hi := ih _ _ _ (by simp at h ⊢; omega) w2 hsk.symm
          have hone : runeW (92 :: d :: r') = 1 := by have := runeW_asc (92 :: d :: r') 0 (by show (92 : UInt8).toNat < 128; decide); simpa using this
          have h1 := runes_take (l := 92 :: d :: r') (n := e - i) (by simp) (by omega) (by omega) (by have := hb0.2.1; omega)
          rw [hone] at h1
          have h2 := runes_take (l := d :: r') (n := e - i - 1) hdne w1 (by omega) (by have := hb0.2.1; simp at this ⊢; omega)
          rw [h1]
          have ht : runeT (92 :: d :: r') = [92] := by unfold runeT; rw [hone]; rfl
          rw [ht]
          show evenR true (runesP ((d :: r').take (e - i - 1))) = true
          rw [h2, show e - i - 1 - runeW (d :: r') = e - (i + 1 + runeW (d :: r')) by omega]
          unfold evenR
          rw [if_neg (fun c => by cases c.2)]
          exact hi
      · by_cases h47 : c = 47
        · subst h47
          rw [closeF_slash] at hc; cases hc
        have hne : (c :: q) ≠ [] := by simp
        obtain ⟨w1, w2⟩ := valid_next hne hv
        have hwl := runeW_le' hne
        have hcont := (rune_cont hne hv).1
        unfold closeF at hc
        rw [if_neg h47, if_neg h92, if_neg h93] at hc
        have hsk := closeF_skip from' (runeW (c :: q) - 1) q (i + 1) (fun j hj => by
          have := (contB_iff.1 (hcont (j + 1) (by omega) (by omega))).1
          simpa using this) (by simp at hwl; omega)
        rw [hc] at hsk
        have hdr : q.drop (runeW (c :: q) - 1) = (c :: q).drop (runeW (c :: q)) := by
          conv => rhs; rw [show runeW (c :: q) = (runeW (c :: q) - 1) + 1 by omega]
          rw [List.drop_succ_cons]
        rw [hdr, show i + 1 + (runeW (c :: q) - 1) = i + runeW (c :: q) by omega] at hsk
        have hb := closeF_le from' _ _ _ _ (Nat.le_refl _) hsk.symm
        have hi := ih _ _ _ (by simp; omega) w2 hsk.symm
        have h1 := runes_take (l := c :: q) (n := e - i) hne w1 (by omega) (by have := hb0.2.1; simp at this ⊢; omega)
        rw [h1, show e - i - runeW (c :: q) = e - (i + runeW (c :: q)) by omega]
        have ht : runeT (c :: q) ≠ [92] := by
          intro e1
          have : (runeT (c :: q)).head? = some 92 := by rw [e1]; rfl
          unfold runeT at this
          obtain ⟨k, hk⟩ : ∃ k, runeW (c :: q) = k + 1 := ⟨runeW (c :: q) - 1, by omega⟩
          rw [hk, List.take_succ_cons] at this
          injection this with this
          exact h92 this
        unfold evenR
        rw [if_neg (fun c => ht c.1)]
        exact hi
/-- what stands between brackets, with the '!' struck, ends with no lone backslash -/
theorem close_even {q : List UInt8} {e : Nat} (hv : validD (91 :: q) = true) (h : closeP (91 :: q) = some e) : evenR false (runesP (((91 :: q).take e).drop (setFrom (91 :: q)))) = true := by
  unfold closeP at h
  have hv2 : validD ((91 :: q).drop (setFrom (91 :: q))) = true := by
    unfold setFrom
    split
    · rename_i h33
      cases q with
      | nil => simp at h33
      | cons c q =>
        simp only [List.drop_succ_cons, List.drop_zero, List.head?_cons, Option.some.injEq] at h33
        subst h33
        rw [validD_cons _ _ (by decide), validD_cons _ _ (by decide)] at hv
        exact hv
    · rw [validD_cons _ _ (by decide)] at hv
      exact hv
  have := inner_even _ _ _ _ _ (Nat.le_refl _) hv2 h
  rw [List.drop_take]
  exact this
theorem runeW_ext {l : List UInt8} {e : Nat} (h : 1 ≤ runeW (l.take e)) (hel : e ≤ l.length) (hne : l.take e ≠ []) : runeW l = runeW (l.take e) := by
  obtain ⟨e2, hok⟩ := runeW_pos h
  have hwl := runeW_le' hne
  have hlen : (l.take e).length = e := by simp; omega
  rw [hlen] at hwl
  have hg : ∀ i, i < e → (l.take e).getD i 0 = l.getD i 0 := fun i hi => by
    rw [List.getD_eq_getElem?_getD, List.getD_eq_getElem?_getD, List.getElem?_take_of_lt hi]
  have hd : decodeN (l.take e).length ((l.take e).getD 0 0).toNat ((l.take e).getD 1 0).toNat ((l.take e).getD 2 0).toNat ((l.take e).getD 3 0).toNat = ((decodeL (l.take e)).1, runeW (l.take e)) := by
    rw [← decodeL_N, ← e2]
  have hc := decodeN_at hd (by rw [← e2]; exact hok) (c1 := (l.getD 1 0).toNat) (c2 := (l.getD 2 0).toNat) (c3 := (l.getD 3 0).toNat) (fun q => by rw [hg 1 (by omega)]) (fun q => by rw [hg 2 (by omega)]) (fun q => by rw [hg 3 (by omega)]) (n := l.length) (by omega)
  rw [hg 0 (by omega)] at hc
  have hd2 : decodeL l = ((decodeL (l.take e)).1, runeW (l.take e)) := by rw [decodeL_N]; exact hc
  have hu : runeW l = if (decodeL l).1 = 65533 ∧ (decodeL l).2 = 1 then 0 else (decodeL l).2 := rfl
  rw [hu, hd2]
  rw [if_neg (by rw [← e2]; exact hok)]
/-- the first byte that is part of no rune: a valid beginning that stops short of it stops between two runes -/
theorem bad_before : ∀ (n : Nat) (l : List UInt8) (k at' : Nat), l.length ≤ n → at' < l.length → validD (l.take at') = true → (∀ j, badAt k l = some j → k + at' < j) → 1 ≤ runeW (l.drop at') := by
  intro n
  induction n with
  | zero => intro l k at' h1 h2; omega
  | succ n ih =>
    intro l k at' h1 h2 hv hb
    have hne : l ≠ [] := fun e => by rw [e] at h2; simp at h2
    have hst := badAt_step (k := k) hne
    by_cases h0 : runeW l = 0
    · rw [if_pos h0] at hst
      have := hb k hst
      omega
    · rw [if_neg h0] at hst
      by_cases ha : at' = 0
      · subst ha; simpa using (show 1 ≤ runeW l by omega)
      · have hle : runeW l ≤ at' := by
          -- a valid beginning's first rune is this one
          have hne2 : l.take at' ≠ [] := by
            intro e
            have h0 : (l.take at').length = 0 := by rw [e]; rfl
            rw [List.length_take] at h0
            omega
          obtain ⟨v1, _⟩ := valid_next hne2 hv
          have h4 := runeW_le' hne2
          rw [runeW_ext v1 (by omega) hne2]
          rw [List.length_take] at h4
          omega
        have hdt : validD ((l.drop (runeW l)).take (at' - runeW l)) = true := by
          have hw := runeW_take (show 1 ≤ runeW l by omega) hle (by omega)
          have hne2 : l.take at' ≠ [] := by
            intro e
            have h0 : (l.take at').length = 0 := by rw [e]; rfl
            rw [List.length_take] at h0
            omega
          have := (valid_next hne2 hv).2
          rw [hw, List.drop_take] at this
          exact this
        have := ih (l.drop (runeW l)) (k + runeW l) (at' - runeW l) (by simp; omega) (by simp; omega) hdt (fun j hj => by
          have := hb j (by rw [hst]; exact hj)
          omega)
        rw [List.drop_drop, show runeW l + (at' - runeW l) = at' by omega] at this
        exact this
end Go.Proofs.YtgppfcaghjbjmaaGreatDoor.Plain
end
