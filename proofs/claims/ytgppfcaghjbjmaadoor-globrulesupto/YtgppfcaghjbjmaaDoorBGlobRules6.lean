/- Texts joined: Path, GenSplit, Strs, NameFns, Glob7, Glob8, Close, Open, Open2. -/
import Derived.Test.YtgppfcaghjbjmaaDoorBGlobRules5
import Derived.Test.YtgppfcaghjbjmaaDoorBGlobRules1
import Derived.Test.YtgppfcaghjbjmaaDoorBGlobRules3
import Derived.Test.YtgppfcaghjbjmaaDoorShelf
import Derived.ProofKit
import Derived.OpenShut
import Derived.JoinedCond
import Derived.Deep.CondSized
import Derived.Deep.Slices

/- name.Path. -/
section
namespace Go.Proofs.YtgppfcaghjbjmaaDoor
open Go.RowKit Go.Shelf Plain
attribute [local go_sem] Oper.semAt_some

theorem pathOK_long {s : List UInt8} (h : 400 < s.length) : pathOK s = false := by unfold pathOK; rw [decide_eq_false (by omega)]; rfl
theorem pathOK_deep {s : List UInt8} (h : 16 ≤ s.count 47) : pathOK s = false := by unfold pathOK; rw [parts_length, decide_eq_false (show ¬ s.count 47 + 1 ≤ 16 by omega)]; simp
theorem pathOK_all {s : List UInt8} (h : s.length ≤ 400) (h2 : s.count 47 < 16) : pathOK s = (parts s).all nameOK := by
  unfold pathOK; rw [parts_length, decide_eq_true h, decide_eq_true (by omega)]; simp

theorem cell_new0 (W : World) (v : Value) (t : TypeId) : (W.alloc (.cells #[v] t)).cell? ⟨W.heap.size, 0, none⟩ = some v := by simp [go_sem]
theorem frozen_new0 (W : World) (v : Value) (t : TypeId) : (W.alloc (.cells #[v] t)).frozen? ⟨W.heap.size, 0, none⟩ = false := by simp [go_sem]
theorem results_cell_one {P : Program} {fn : Func} {p : Tmp} {ty : TypeId} (h : fn.results = #[.cell p ty]) (tmps : Array Value) (w : World) (a : Addr) (v : Value) (hp : tmps.getD p undef = .pointer (some a)) (hc : w.cell? a = some v)
    (hagg : ∀ w, (isAgg ty).run P w = .ok false w) : (results fn tmps).run P w = .ok v w := by
  have hp' : tmps[p]?.getD undef = .pointer (some a) := by simpa using hp
  simp [results, h, hp', asAddr, loadVar, hagg, hc, go_sem]

/-- What the loop keeps. -/
def PathI (w : World) (pre : List (List UInt8)) (W : World) : Prop :=
  (∀ x ∈ pre, nameOK x = true) ∧ Below w.heap.size w W ∧ W.cell? ⟨w.heap.size, 0, none⟩ = some (.bool false) ∧ W.frozen? ⟨w.heap.size, 0, none⟩ = false
def PathX (w : World) (pre : List (List UInt8)) (W : World) : Prop :=
  (∃ x ∈ pre, nameOK x = false) ∧ Below w.heap.size w W ∧ W.cell? ⟨w.heap.size, 0, none⟩ = some (.bool false)

set_option maxHeartbeats 4000000 in
theorem Path_any (s : List UInt8) (w : World) (hT : Tabs w) :
    Calls Tryd.prog 18 #[.string ⟨s.toArray⟩] w (Ret w (.bool (pathOK s))) := by
  by_cases h1 : 400 < s.length
  · rw [pathOK_long h1]
    have hc : decide ((400 : Int) < s.length) = true := by simp; omega
    go_enter Tryd.func18, Tryd.ntmps18
    go_wp2_with (fail)
    refine bodyPost_ret (v := .bool false) (results_cell_one Tryd.results18 _ _ ⟨w.heap.size, 0, none⟩ _ rfl ?_ Tryd.isAgg4) rfl ⟨rfl, ?_⟩
    · exact cell_new0 _ _ _
    exact (Below.refl _ _).alloc (Nat.le_refl _) _
  have hc : decide ((400 : Int) < s.length) = false := by simp; omega
  have HCnt := Lib.hid (fun W => Tryd.strings_Count_one ⟨s.toArray⟩ 47 W)
  rw [show Lib.countByte (ByteArray.mk s.toArray).data.toList 47 = s.count 47 from rfl] at HCnt
  by_cases h2 : 16 ≤ s.count 47
  · rw [pathOK_deep h2]
    generalize s.count 47 = cn at *
    have hc2 : decide ((16 : Int) ≤ cn) = true := by simp; omega
    go_enter Tryd.func18, Tryd.ntmps18
    go_wp2_with (fail)
    refine (HCnt.out _).mono ?_
    rintro e w1 ⟨rfl, rfl⟩
    go_wp2_with (fail)
    refine bodyPost_ret (v := .bool false) (results_cell_one Tryd.results18 _ _ ⟨w.heap.size, 0, none⟩ _ rfl ?_ Tryd.isAgg4) rfl ⟨rfl, ?_⟩
    · exact cell_new0 _ _ _
    exact (Below.refl _ _).alloc (Nat.le_refl _) _
  rw [pathOK_all (by omega) (by omega)]
  have hcn : s.count 47 < 16 := by omega
  have hs63 : s.length ≤ 4294967280 := by omega
  generalize s.count 47 = cn at *
  have hc2 : decide ((16 : Int) ≤ cn) = false := by simp; omega
  have HSQ := Lib.hid (fun W => SplitSeq_any s W)
  refine (callsIn_wide (n := 5)).1 ?_
  refine callsIn_of_wp_marks Tryd.func18 rfl trivial ?_ rfl
  simp only [Tryd.ntmps18, List.size_toArray, List.length_cons, List.length_nil, Nat.reduceAdd, Nat.reduceSub, Array.replicate_succ, Array.replicate_zero, List.push_toArray, List.append_toArray, List.nil_append, List.cons_append]
  gi_wp2
  refine ⟨trivial, (callsIn_wide.2 (HCnt.out _)).mono ?_⟩
  rintro e w1 ⟨rfl, rfl⟩
  gi_wp2
  refine ⟨trivial, (callsIn_wide.2 (HSQ.out _)).mono ?_⟩
  rintro e w1 ⟨rfl, hw1⟩
  have hsz : w1.heap.size = w.heap.size + 4 := by rw [hw1]; simp
  have hB0 : Below w.heap.size w w1 := by
    rw [hw1]; exact ((((Below.refl _ _).alloc (Nat.le_refl _) _).alloc (by simp) _).alloc (by simp; omega) _).alloc (by simp; omega) _
  have hc0 : w1.cell? ⟨w.heap.size, 0, none⟩ = some (.bool false) := by rw [hw1]; simp [go_sem]
  have hf0 : w1.frozen? ⟨w.heap.size, 0, none⟩ = false := by rw [hw1]; simp [go_sem]
  have hc1 : w1.cell? ⟨w.heap.size + 1, 0, none⟩ = some (.string ⟨s.toArray⟩) := by rw [hw1]; simp [go_sem]
  have hf1 : w1.frozen? ⟨w.heap.size + 1, 0, none⟩ = false := by rw [hw1]; simp [go_sem]
  have hc2' : w1.cell? ⟨w.heap.size + 1 + 1, 0, none⟩ = some (.string ⟨#[47]⟩) := by rw [hw1]; simp [go_sem]
  have hc3 : w1.cell? ⟨w.heap.size + 1 + 2, 0, none⟩ = some (.int .i64 0) := by rw [hw1]; simp [go_sem]
  rw [World.size_alloc]
  clear hw1
  have HB0 := Lib.hid hB0
  have HC := Lib.hid (And.intro hc0 (And.intro hf0 (And.intro hc1 (And.intro hf1 (And.intro hc2' hc3)))))
  have HSZ := Lib.hid hsz
  clear hsz hB0 hc0 hf0 hc1 hf1 hc2' hc3
  gi_wp2
  refine rangeFunc_own (n := 5) (gf := 74) (lb := #[.pointer (some ⟨w.heap.size + 1 + 1, 0, none⟩), .pointer (some ⟨w.heap.size + 1, 0, none⟩), .pointer (some ⟨w.heap.size + 1 + 2, 0, none⟩)]) ?c0 (enters_of Tryd.func74 (by kernel_rfl) rfl) (encs := fun x => #[.string ⟨x.toArray⟩]) (fun _ => rfl) (parts s) (PathI w) (PathX w) (w.heap.size + 1) (by rw [HSZ.out]; omega) ?hseq ?hst ?hput ?hxput ?h0
    (fun x => { tmps := #[.string ⟨s.toArray⟩, undef, .pointer (some ⟨w.heap.size, 0, none⟩), .string ⟨x.toArray⟩, .string ⟨s.toArray⟩, .int .i64 s.length, .bool false, .bool false, .string ⟨s.toArray⟩, .int .i64 cn, .bool false, .bool false, .string ⟨s.toArray⟩, .func (.func 74) #[] #[.pointer (some ⟨w.heap.size + 1 + 1, 0, none⟩), .pointer (some ⟨w.heap.size + 1, 0, none⟩), .pointer (some ⟨w.heap.size + 1 + 2, 0, none⟩)], .string ⟨x.toArray⟩, undef, undef, undef], defers := [] }) ?assign ?body ?done ?stop
  case c0 => rfl
  case hseq =>
    intro l J Jx W hold hst hY h0
    rw [HSZ.out] at hold hY
    have hcell : ∀ b, b < w.heap.size + 4 → W.cell? ⟨b, 0, none⟩ = w1.cell? ⟨b, 0, none⟩ ∧ W.frozen? ⟨b, 0, none⟩ = w1.frozen? ⟨b, 0, none⟩ := fun b hb => by
      have h := hold b hb
      unfold World.cell? World.frozen?
      simp only [h]
      exact ⟨trivial, trivial⟩
    obtain ⟨_, _, k1, k2, k3, k4⟩ := HC.out
    exact splitSeq1_in (5 - 1) l (w.heap.size + 1) (w.heap.size + 1 + 1) (w.heap.size + 1 + 2) (w.heap.size + 4) s J Jx hs63 (by omega) (by omega) (by omega) (by omega) (by omega) hY hst W
      ((hcell _ (by omega)).1.trans k1) ((hcell _ (by omega)).1.trans k3) ((hcell _ (by omega)).1.trans k4) ((hcell _ (by omega)).2.trans k2) h0
  case hst =>
    rintro pre W v ⟨h1, h2, h3, h4⟩
    exact ⟨h1, h2.setCell (by show w.heap.size ≤ w.heap.size + 1; omega) _, by rw [World.cell?_setCell_other _ _ _ _ (by intro e; injection e with e; omega)]; exact h3, by rw [World.frozen?_setCell]; exact h4⟩
  case hput =>
    rintro pre W l o hl ⟨h1, h2, h3, h4⟩
    rw [HSZ.out] at hl
    have hb := World.block_lt_of_cell? _ _ h3
    have hk : (W.putObj l o).heap[w.heap.size]? = W.heap[w.heap.size]? := World.putObj_heap_other (by omega)
    refine ⟨h1, below_put h2 (by omega) _, ?_, ?_⟩
    · rw [← h3]; unfold World.cell?; simp only [hk]
    · rw [← h4]; unfold World.frozen?; simp only [hk]
  case hxput =>
    rintro pre W l o hl ⟨h1, h2, h3⟩
    rw [HSZ.out] at hl
    have hk : (W.putObj l o).heap[w.heap.size]? = W.heap[w.heap.size]? := World.putObj_heap_other (by omega)
    refine ⟨h1, below_put h2 (by omega) _, ?_⟩
    rw [← h3]; unfold World.cell?; simp only [hk]
  case h0 =>
    intro o1 o2
    obtain ⟨k1, k2, _⟩ := HC.out
    have hlt := World.block_lt_of_cell? _ _ k1
    have hbb := (((Below.refl w1.heap.size w1).alloc (Nat.le_refl _) o1).alloc (by simp) o2)
    exact ⟨(fun x hx => by cases hx), HB0.out.trans (hbb.mono HB0.out.size), (hbb.cell (p := ⟨w.heap.size, 0, none⟩) hlt).trans k1, (hbb.frozen (p := ⟨w.heap.size, 0, none⟩) hlt).trans k2⟩
  case assign =>
    intro l x W K hK
    gi_wp2
    exact hK
  case body =>
    rintro l pre x W ⟨h1, h2, h3, h4⟩ hlt
    have hN := Name_any x W (Utf8Tabs_below hT h2)
    cases hx : nameOK x with
    | true =>
      rw [hx] at hN
      have HN := Lib.hid hN
      have HX := Lib.hid hx
      clear hN hx
      gi_wp2
      refine ⟨trivial, (CallsIn.inRound l (callsIn_wide.2 HN.out)).mono ?_⟩
      rintro e w2 ⟨rfl, hw2⟩
      gi_wp2
      have hb := World.block_lt_of_cell? _ _ h3
      refine ⟨fun k h1 h2 => hw2.block k h2, hw2.mono (by omega), fun y hy => ?_, h2.trans (hw2.mono h2.size), (hw2.cell (p := ⟨w.heap.size, 0, none⟩) hb).trans h3, (hw2.frozen (p := ⟨w.heap.size, 0, none⟩) hb).trans h4⟩
      rw [List.mem_append, List.mem_singleton] at hy
      rcases hy with hy | rfl
      · exact h1 y hy
      · exact HX.out
    | false =>
      rw [hx] at hN
      have HN := Lib.hid hN
      have HX := Lib.hid hx
      clear hN hx
      gi_wp2
      refine ⟨trivial, (CallsIn.inRound l (callsIn_wide.2 HN.out)).mono ?_⟩
      rintro e w2 ⟨rfl, hw2⟩
      have hb := World.block_lt_of_cell? _ _ h3
      have h3' := (hw2.cell (p := ⟨w.heap.size, 0, none⟩) hb).trans h3
      have h4' := (hw2.frozen (p := ⟨w.heap.size, 0, none⟩) hb).trans h4
      gi_wp2
      refine ⟨fun k q1 q2 => ?_, ⟨x, by simp, HX.out⟩, ?_, World.cell?_setCell_same' _ _ _ (by rw [h3']; rfl)⟩
      · rw [HSZ.out] at q1
        exact (Below.heap_setCell _ _ _ _ (by show k ≠ w.heap.size; omega)).trans (hw2.block k q2)
      · exact (h2.trans (hw2.mono h2.size)).setCell (Nat.le_refl _) _
  case done =>
    rintro W ⟨h1, h2, h3, h4⟩ hK
    have hall : (parts s).all nameOK = true := by rw [List.all_eq_true]; exact h1
    have HA := Lib.hid hall
    have H1 := Lib.hid h1
    clear hall h1
    have hlt := World.block_lt_of_cell? _ _ h3
    have hK' : (W.setCell ⟨w.heap.size, 0, none⟩ (.bool true)).heap[w1.heap.size]? = some (.deferred (some [])) := (Below.heap_setCell _ _ _ _ (by show w1.heap.size ≠ w.heap.size; rw [HSZ.out]; omega)).trans hK
    gi_wp2
    refine ⟨by simp, .inl ⟨_, _, rfl, run_takeDeferred hK', ?_⟩⟩
    have hcell : ((W.setCell ⟨w.heap.size, 0, none⟩ (.bool true)).putObj w1.heap.size (.deferred none)).cell? ⟨w.heap.size, 0, none⟩ = some (.bool true) := by
      have hk : ((W.setCell ⟨w.heap.size, 0, none⟩ (.bool true)).putObj w1.heap.size (.deferred none)).heap[w.heap.size]? = (W.setCell ⟨w.heap.size, 0, none⟩ (.bool true)).heap[w.heap.size]? := World.putObj_heap_other (by rw [HSZ.out]; omega)
      have h5 : (W.setCell ⟨w.heap.size, 0, none⟩ (.bool true)).cell? ⟨w.heap.size, 0, none⟩ = some (.bool true) := World.cell?_setCell_same' _ _ _ (by rw [h3]; rfl)
      rw [← h5]; unfold World.cell?; simp only [hk]
    refine ⟨_, results_cell_one Tryd.results18 _ _ ⟨w.heap.size, 0, none⟩ _ rfl hcell Tryd.isAgg4, ?_⟩
    exact ⟨by rw [HA.out], below_put (h2.setCell (Nat.le_refl _) _) (by rw [HSZ.out]; omega) _⟩
  case stop =>
    rintro pre W hpre ⟨⟨x, hx, hxf⟩, h2, h3⟩ hK
    have hall : (parts s).all nameOK = false := by
      rw [List.all_eq_false]
      exact ⟨x, hpre.subset hx, by rw [hxf]; decide⟩
    have HA := Lib.hid hall
    clear hall hx hxf
    gi_wp2
    refine ⟨by simp, .inl ⟨_, _, rfl, run_takeDeferred hK, ?_⟩⟩
    have hcell : (W.putObj w1.heap.size (.deferred none)).cell? ⟨w.heap.size, 0, none⟩ = some (.bool false) := by
      have hk : (W.putObj w1.heap.size (.deferred none)).heap[w.heap.size]? = W.heap[w.heap.size]? := World.putObj_heap_other (by rw [HSZ.out]; omega)
      rw [← h3]; unfold World.cell?; simp only [hk]
    refine ⟨_, results_cell_one Tryd.results18 _ _ ⟨w.heap.size, 0, none⟩ _ rfl hcell Tryd.isAgg4, ?_⟩
    exact ⟨by rw [HA.out], below_put h2 (by rw [HSZ.out]; omega) _⟩
end Go.Proofs.YtgppfcaghjbjmaaDoor
end

/- strings' cutting at one byte. -/
section
namespace Go.Proofs.YtgppfcaghjbjmaaDoor
open Go.RowKit Plain

theorem map_strs (l : List ByteArray) : l.map Value.string = strs (l.map (·.data.toList)) := by
  rw [strs, List.map_map]
  apply List.map_congr_left
  intro b _
  simp [strV]

theorem genSplit_cut (s : List UInt8) (c : UInt8) (sv : Nat) (m : Int) (w : World) (hsv : sv ≤ 1) (hs : s.length < 4294967281) (hm : w.cell? ⟨0, 0, none⟩ = some (.int .i64 m)) :
    Calls Tryd.prog 42 #[.string ⟨s.toArray⟩, .string ⟨#[c]⟩, .int .i64 sv, .int .i64 (-1)] w fun e w' =>
      e = .returned (.slice (some ⟨w.heap.size, 0, none⟩) (cutAt c (if sv = 1 then [c] else []) s).length (cutAt c (if sv = 1 then [c] else []) s).length) ∧ w' = w.alloc (.cells (strs (cutAt c (if sv = 1 then [c] else []) s)).toArray 9) := by
  have hc : s.count c ≤ s.length := List.count_le_length
  have hcB : Lib.countB ⟨s.toArray⟩ ⟨#[c]⟩ = s.count c := by
    show Lib.count s [c] = _
    rw [Lib.count_one]
  have hl := cutAt_length c (if sv = 1 then [c] else []) s
  have hsp := splitB_cut c sv hsv (s.count c) s (Nat.le_refl _)
  have h := Tryd.strings_genSplit ⟨s.toArray⟩ ⟨#[c]⟩ sv (-1) (s.count c + 1) m w (by simpa [ByteArray.size] using hs) hm (Nat.le_refl _) hsv (by decide) (by decide) (by rw [hcB, if_pos (by decide)]; simp [ByteArray.size]; omega)
  rw [Nat.add_sub_cancel] at h
  have hlen : (Lib.splitB ⟨#[c]⟩ sv (s.count c) ⟨s.toArray⟩).length = s.count c + 1 := by
    have := congrArg List.length hsp
    rw [List.length_map, hl] at this
    exact this
  rw [hlen] at h
  rw [hl]
  refine h.mono fun e w' ⟨he, hw⟩ => ⟨he, ?_⟩
  rw [hw]
  unfold Lib.cellsOf
  rw [hlen, Nat.sub_self, List.replicate_zero, List.append_nil, map_strs, hsp]
end Go.Proofs.YtgppfcaghjbjmaaDoor
end

/- Lists of texts that are handed back; strings.Split at one byte. -/
section
namespace Go.Proofs.YtgppfcaghjbjmaaDoor
open Go.RowKit Plain

/-- a []string that reads as l; old memory as it was -/
def StrsOut (w : World) (l : List (List UInt8)) (e : Ending) (w' : World) : Prop := ∃ A c, e = .returned (.slice A l.length c) ∧ l.length ≤ c ∧ c ≤ maxLen ∧ Reads w' 1 A l.length (strs l) ∧ Below w.heap.size w w' ∧ (A = none → c = 0)

theorem of_own0 {w : World} {base : Nat} {e : TypeId} {size n : Nat} {v : Value} {xs : List Value} (h : w.ownsRow base e size v n xs) : ∃ A c, v = .slice A n c ∧ n ≤ c ∧ c ≤ maxLen ∧ Reads w size A n xs ∧ (A = none → c = 0) := by
  obtain ⟨A, c, rfl, h1, h2, h3⟩ := IsSlice.of_own h
  refine ⟨A, c, rfl, h1, h2, h3, fun e => ?_⟩
  subst e
  rcases h.2 with ⟨hv, h0⟩ | ⟨g, cap, cur, hv, _⟩
  · injection hv
  · injection hv with e1
    cases e1

theorem laid_strs (w : World) (l : List (List UInt8)) (e : TypeId) : Reads (w.alloc (.cells (strs l).toArray e)) 1 (some ⟨w.heap.size, 0, none⟩) l.length (strs l) :=
  ⟨by rw [strs_length]; omega, fun _ => ⟨_, rfl, fun j u hj => by
    rw [show (⟨w.heap.size, 0, none⟩ : Addr).add j = ⟨w.heap.size, j, none⟩ by unfold Addr.add; split <;> simp_all, cell_of_row _ _ _ (strs l).toArray e (0, 0) (heap_alloc_new w _)]
    simpa using hj⟩⟩
theorem info_string : (Tryd.prog.info? 9).map (fun i => (i.zero, i.size, i.bytes)) = some (some (.string ByteArray.empty), 1, 16) := by kernel_rfl

theorem strSplit_any (s : List UInt8) (c : UInt8) (m : Int) (w : World) (hs : s.length < 4294967281) (hm : w.cell? ⟨0, 0, none⟩ = some (.int .i64 m)) :
    Calls Tryd.prog 21 #[.string ⟨s.toArray⟩, .string ⟨#[c]⟩] w (StrsOut w (cutAt c [] s)) := by
  have hg := genSplit_cut s c 0 m w (by omega) hs hm
  rw [if_neg (by decide)] at hg
  have hlen := cutAt_length c [] s
  have hcc : s.count c ≤ s.length := List.count_le_length
  have hle : (cutAt c [] s).length ≤ maxLen := by unfold maxLen; omega
  have hr := laid_strs w (cutAt c [] s) 9
  generalize cutAt c [] s = l at *
  have HG := Lib.hid hg
  have HR := Lib.hid hr
  clear hg hm hr hlen
  go_enter Tryd.func21, Tryd.ntmps21
  go_wp2_with (fail)
  refine HG.out.mono ?_
  rintro e w1 ⟨rfl, rfl⟩
  go_wp2_with (fail)
  go_ret
  exact ⟨_, _, rfl, Nat.le_refl _, hle, HR.out, (Below.refl _ _).alloc (Nat.le_refl _) _, fun e => by cases e⟩
end Go.Proofs.YtgppfcaghjbjmaaDoor
end

/- name.Split, Parent, Base. -/
section
namespace Go.Proofs.YtgppfcaghjbjmaaDoor
open Go.RowKit Plain

/-- What a call may lean on. -/
structure Laid (w : World) (m : Int) : Prop where
  tabs : Tabs w
  max : w.cell? ⟨0, 0, none⟩ = some (.int .i64 m)
theorem Laid.below {w w' : World} {m : Int} (h : Laid w m) (hb : Below w.heap.size w w') : Laid w' m :=
  ⟨Utf8Tabs_below h.tabs hb, (hb.cell (p := ⟨0, 0, none⟩) (World.block_lt_of_cell? _ _ h.max)).trans h.max⟩

def splitM (s : List UInt8) : List (List UInt8) := if pathOK s then parts s else []

theorem Split_any (s : List UInt8) (m : Int) (w : World) (hL : Laid w m) :
    Calls Tryd.prog 22 #[.string ⟨s.toArray⟩] w (StrsOut w (splitM s)) := by
  have hp := Path_any s w hL.tabs
  unfold splitM
  cases hok : pathOK s with
  | false =>
    rw [hok] at hp
    have HP := Lib.hid hp
    clear hp hok
    go_enter Tryd.func22, Tryd.ntmps22
    go_wp2_with (fail)
    refine HP.out.mono ?_
    rintro e w1 ⟨rfl, hw1⟩
    go_wp2_with (fail)
    go_ret
    exact ⟨none, 0, rfl, Nat.le_refl _, Nat.zero_le _, Reads.nil _ _ _, hw1, fun _ => rfl⟩
  | true =>
    rw [hok] at hp
    have HP := Lib.hid hp
    have hs := pathOK_len hok
    have HS := Lib.hid (fun W (hb : Below w.heap.size w W) => strSplit_any s 47 m W (by omega) (hL.below hb).max)
    clear hp hok
    rw [if_pos rfl]
    show Calls _ _ _ _ (StrsOut w (cutAt 47 [] s))
    generalize cutAt 47 [] s = l at *
    go_enter Tryd.func22, Tryd.ntmps22
    go_wp2_with (fail)
    refine HP.out.mono ?_
    rintro e w1 ⟨rfl, hw1⟩
    go_wp2_with (fail)
    refine (HS.out _ hw1).mono ?_
    rintro e w2 ⟨A, c, rfl, hc, hm, hr, hw2, h0⟩
    go_wp2_with (fail)
    go_ret
    exact ⟨A, c, rfl, hc, hm, hr, hw1.trans (hw2.mono hw1.size), h0⟩

theorem lib_none {s : List UInt8} (h : 47 ∉ s) : Lib.lastIndexByte ⟨s.toArray⟩ 47 = -1 := by
  rcases Lib.lastIndexByte_spec ⟨s.toArray⟩ 47 with ⟨e, _⟩ | ⟨i, hi, _, hc, _⟩
  · exact e
  · exfalso
    have hi' : i < s.length := by simpa [ByteArray.size] using hi
    have : (s.toArray[i]!) = s[i] := by simp [hi']
    simp only [this] at hc
    exact h (by have e : s[i] = 47 := UInt8.toNat.inj (by simpa using Int.ofNat.inj hc); rw [← e]; exact List.getElem_mem hi')
theorem lib_last (p q : List UInt8) (h : 47 ∉ q) : Lib.lastIndexByte ⟨(p ++ 47 :: q).toArray⟩ 47 = p.length := by
  have hget : ∀ j, j < (p ++ 47 :: q).length → ((p ++ 47 :: q).toArray[j]!) = (p ++ 47 :: q).getD j 0 := fun j hj => by simp [List.getD]; rfl
  have hsz : (ByteArray.mk (p ++ 47 :: q).toArray).size = (p ++ 47 :: q).length := by simp [ByteArray.size]
  have hgp : (p ++ 47 :: q).getD p.length 0 = 47 := by simp [List.getD]
  have hpl : p.length < (p ++ 47 :: q).length := by simp
  rcases Lib.lastIndexByte_spec ⟨(p ++ 47 :: q).toArray⟩ 47 with ⟨_, hn⟩ | ⟨i, hi, e, hc, hn⟩
  · exfalso
    have := hn p.length (by rw [hsz]; exact hpl)
    simp only [hget _ hpl, hgp] at this
    exact this rfl
  · rw [e]
    rw [hsz] at hi hn
    simp only [hget _ hi] at hc
    rcases Nat.lt_trichotomy i p.length with hlt | heq | hgt
    · exfalso
      have := hn p.length hlt hpl
      simp only [hget _ hpl, hgp] at this
      exact this rfl
    · rw [heq]
    · exfalso
      have e2 : (p ++ 47 :: q).getD i 0 = 47 := UInt8.toNat.inj (by simpa using Int.ofNat.inj hc)
      obtain ⟨k, rfl⟩ : ∃ k, i = p.length + 1 + k := ⟨i - p.length - 1, by omega⟩
      have e3 : (p ++ 47 :: q).getD (p.length + 1 + k) 0 = q.getD k 0 := by
        simp only [List.getD]
        rw [List.getElem?_append_right (by omega), show p.length + 1 + k - p.length = k + 1 by omega]; rfl
      rw [e3] at e2
      have hk : k < q.length := by simp at hi; omega
      exact h (by rw [← e2]; simp [List.getD, hk])
theorem LastIndexS_any (s : List UInt8) (w : World) (hs : s.length ≤ 9223372036854775807) :
    Calls Tryd.prog 70 #[.string ⟨s.toArray⟩, .int .u8 47] w (Ret w (.int .i64 (Lib.lastIndexByte ⟨s.toArray⟩ 47))) := by
  have hsz : (ByteArray.mk s.toArray).size = s.length := by simp [ByteArray.size]
  have HL := Lib.hid (show Lib.lastIndexByte ⟨s.toArray⟩ 47 = Lib.lastIdx ⟨s.toArray⟩ 47 s.length by unfold Lib.lastIndexByte; rw [hsz])
  clear hsz
  go_enter Tryd.func70, Tryd.ntmps70
  go_wp2_with (fail)
  go_loopw [5] (fun t4 W => ∃ k : Nat, k ≤ s.length ∧ t4 = .int .i64 ((k : Int) - 1) ∧ Hid (Lib.lastIdx ⟨s.toArray⟩ 47 s.length = Lib.lastIdx ⟨s.toArray⟩ 47 k) ∧ Hid (Below w.heap.size w W)) (fun t4 _ => (intOf t4 + 1).toNat)
  case atStart => exact ⟨s.length, by omega, rfl, Lib.hid rfl, Lib.hid (Below.refl _ _)⟩
  case round =>
    obtain ⟨k, hk, rfl, HI, HB⟩ := hrel
    by_cases h0 : k = 0
    · subst h0
      go_wp2_with (fail)
      go_ret
      exact ⟨by rw [HL.out, HI.out]; rfl, HB.out⟩
    · obtain ⟨j, rfl⟩ : ∃ j, k = j + 1 := ⟨k - 1, by omega⟩
      have e1 : ((j + 1 : Nat) : Int) - 1 = j := by omega
      rw [e1]
      have i0 : (0 : Int) ≤ j := by omega
      have i1 : (j : Int) < s.length := by omega
      have hg : (s.toArray[j]!) = s[j]'(by omega) := by simp [show j < s.length by omega]
      have hn1 : ((j : Int)).toNat = j := by omega
      generalize hx : s[j]'(by omega) = x at *
      by_cases h47 : (x.toNat : Int) = 47
      · have HR := Lib.hid (HI.out.trans (Lib.lastIdx_hit ⟨s.toArray⟩ 47 j (by simp only [hg]; exact h47)))
        have hB : ((x.toNat : Int) == 47) = true := by simpa using h47
        clear h47 hg h0 e1
        go_wp2_with (fail)
        go_ret
        exact ⟨by rw [HL.out, HR.out]; rfl, HB.out⟩
      · have HR := Lib.hid (HI.out.trans (Lib.lastIdx_miss ⟨s.toArray⟩ 47 j (by simp only [hg]; exact h47)))
        have hB : ((x.toNat : Int) == 47) = false := by simpa using h47
        clear h47 hg h0 e1
        go_wp2_with (fail)
        go_roundw
        case rel => exact ⟨j, by omega, by go_num, HR, HB⟩
        case measure => simp [intOf]
theorem LastIndex_any (s : List UInt8) (w : World) (hs : s.length ≤ 9223372036854775807) :
    Calls Tryd.prog 47 #[.string ⟨s.toArray⟩, .int .u8 47] w (Ret w (.int .i64 (Lib.lastIndexByte ⟨s.toArray⟩ 47))) := by
  have HC := Lib.hid (LastIndexS_any s w hs)
  go_enter Tryd.func47, Tryd.ntmps47
  go_wp2_with (fail)
  refine HC.out.mono ?_
  rintro e w1 ⟨rfl, hw1⟩
  go_wp2_with (fail)
  go_ret
  exact ⟨rfl, hw1⟩

theorem Parent_any (s : List UInt8) (w : World) (hT : Tabs w) (hs : s.length ≤ 9223372036854775807) :
    Calls Tryd.prog 33 #[.string ⟨s.toArray⟩] w (Ret w (.string ⟨(parentM s).toArray⟩)) := by
  have hl := LastIndex_any s w hs
  by_cases h47 : 47 ∈ s
  · obtain ⟨p, q, rfl, hq⟩ := last_cut h47
    rw [lib_last p q hq] at hl
    have hp := fun W (hb : Below w.heap.size w W) => Path_any (p ++ 47 :: q) W (Utf8Tabs_below hT hb)
    have hpar := parent_cut p q hq
    have htk : (p ++ 47 :: q).take p.length = p := by simp
    have hpl : p.length < (p ++ 47 :: q).length := by simp
    have hf : pathOK (p ++ 47 :: q) = false → parentM (p ++ 47 :: q) = [] := fun e => by unfold parentM; rw [e]; rfl
    generalize p ++ 47 :: q = s at *
    have HL := Lib.hid hl
    clear hl h47
    cases hok : pathOK s with
    | true =>
      rw [hok] at hp
      have HP := Lib.hid hp
      have HPAR := Lib.hid (hpar hok)
      clear hp hok hpar hf
      go_enter Tryd.func33, Tryd.ntmps33
      go_wp2_with (fail)
      refine HL.out.mono ?_
      rintro e w1 ⟨rfl, hw1⟩
      go_wp2_with (fail)
      refine (HP.out _ hw1).mono ?_
      rintro e w2 ⟨rfl, hw2⟩
      go_wp2_with (fail)
      go_ret
      exact ⟨by rw [HPAR.out]; rfl, hw1.trans (hw2.mono hw1.size)⟩
    | false =>
      rw [hok] at hp
      have HP := Lib.hid hp
      have HPAR := Lib.hid (hf hok)
      clear hp hok hpar hf
      go_enter Tryd.func33, Tryd.ntmps33
      go_wp2_with (fail)
      refine HL.out.mono ?_
      rintro e w1 ⟨rfl, hw1⟩
      go_wp2_with (fail)
      refine (HP.out _ hw1).mono ?_
      rintro e w2 ⟨rfl, hw2⟩
      go_wp2_with (fail)
      go_ret
      exact ⟨by rw [HPAR.out]; rfl, hw1.trans (hw2.mono hw1.size)⟩
  · rw [lib_none h47] at hl
    rw [parent_none h47]
    have HL := Lib.hid hl
    clear hl h47
    go_enter Tryd.func33, Tryd.ntmps33
    go_wp2_with (fail)
    refine HL.out.mono ?_
    rintro e w1 ⟨rfl, hw1⟩
    go_wp2_with (fail)
    go_ret
    exact ⟨rfl, hw1⟩

theorem Base_any (s : List UInt8) (w : World) (hT : Tabs w) (hs : s.length ≤ 9223372036854775807) :
    Calls Tryd.prog 24 #[.string ⟨s.toArray⟩] w (Ret w (.string ⟨(baseM s).toArray⟩)) := by
  have hp := Path_any s w hT
  have hl := fun W => LastIndex_any s W hs
  cases hok : pathOK s with
  | false =>
    rw [hok] at hp
    have HB := Lib.hid (show baseM s = [] by unfold baseM; rw [hok]; rfl)
    have HP := Lib.hid hp
    clear hp hok hl
    go_enter Tryd.func24, Tryd.ntmps24
    go_wp2_with (fail)
    refine HP.out.mono ?_
    rintro e w1 ⟨rfl, hw1⟩
    go_wp2_with (fail)
    go_ret
    exact ⟨by rw [HB.out]; rfl, hw1⟩
  | true =>
    rw [hok] at hp
    have HP := Lib.hid hp
    clear hp
    by_cases h47 : 47 ∈ s
    · obtain ⟨p, q, rfl, hq⟩ := last_cut h47
      rw [lib_last p q hq] at hl
      have HB := Lib.hid (base_cut p q hq hok)
      have hd : (p ++ 47 :: q).drop (p.length + 1) = q := by rw [← List.drop_drop, List.drop_left' rfl]; rfl
      have hd2 : q.take ((p ++ 47 :: q).length - (p.length + 1)) = q := List.take_of_length_le (by simp; omega)
      have hpl : p.length + 1 ≤ (p ++ 47 :: q).length := by simp
      clear hok h47
      generalize p ++ 47 :: q = s at *
      have HL := Lib.hid hl
      clear hl
      go_enter Tryd.func24, Tryd.ntmps24
      go_wp2_with (fail)
      refine HP.out.mono ?_
      rintro e w1 ⟨rfl, hw1⟩
      go_wp2_with (fail)
      refine (HL.out _).mono ?_
      rintro e w2 ⟨rfl, hw2⟩
      go_wp2_with (fail)
      go_ret
      exact ⟨by rw [HB.out]; rfl, hw1.trans (hw2.mono hw1.size)⟩
    · rw [lib_none h47] at hl
      have HB := Lib.hid (base_none h47 hok)
      have HL := Lib.hid hl
      clear hl hok h47
      go_enter Tryd.func24, Tryd.ntmps24
      go_wp2_with (fail)
      refine HP.out.mono ?_
      rintro e w1 ⟨rfl, hw1⟩
      go_wp2_with (fail)
      refine (HL.out _).mono ?_
      rintro e w2 ⟨rfl, hw2⟩
      go_wp2_with (fail)
      go_ret
      exact ⟨by rw [HB.out]; simp, hw1.trans (hw2.mono hw1.size)⟩

theorem HasPrefix_any (s p : List UInt8) (w : World) :
    Calls Tryd.prog 43 #[.string ⟨s.toArray⟩, .string ⟨p.toArray⟩] w (Ret w (.bool (p.isPrefixOf s))) :=
  (Tryd.strings_HasPrefix ⟨s.toArray⟩ ⟨p.toArray⟩ w).mono fun _ _ ⟨he, hw⟩ => ⟨he, hw ▸ Below.refl _ _⟩
end Go.Proofs.YtgppfcaghjbjmaaDoor
end

/- glob.parts, glob.Match. -/
section
namespace Go.Proofs.YtgppfcaghjbjmaaDoor
open Go.RowKit Go.Maps Plain

@[go_sem] theorem run_store_fn {P : Program} {w : World} {a : Addr} {m : Mode} (fn : Fn) (first captured : Array Value) : (store a (.func fn first captured) m).run P w = stored P w a (.func fn first captured) m := run_store P w a _ m rfl

set_option maxHeartbeats 1000000 in
theorem parts_any (p n : List (List UInt8)) (Ap An : Option Addr) (cp cn : Nat) (w : World) (hT : Tabs w)
    (hp : Reads w 1 Ap p.length (strs p)) (hn : Reads w 1 An n.length (strs n)) (hpl : p.length ≤ 65536) (hnl : n.length ≤ 65536)
    (hpo : ∀ x ∈ p, Lib.validD x = true ∧ wfP x = true ∧ x.length ≤ 65536) (hno : ∀ x ∈ n, Lib.validD x = true ∧ x.length ≤ 65536) :
    Calls Tryd.prog 20 #[.slice Ap p.length cp, .slice An n.length cn] w (Ret w (.bool (partsP p n))) := by
  have hd := fun bp bn bs bd bm hbm W hS => down_any w p n Ap An cp cn bp bn bs bd bm hT hbm hp hn hpl hnl hpo hno _ 0 0 W (Nat.le_refl _) (Nat.zero_le _) (Nat.zero_le _) hS
  have HD := Lib.hid hd
  have hmf : ∀ fn first cap W, (Instr.makeFunc fn first cap).run Tryd.prog W = .ok (.func fn first cap) W := fun _ _ _ _ => rfl
  have hmm : ∀ W : World, (Instr.makeMap 53 none).run Tryd.prog W = .ok (.map (some W.heap.size)) (W.alloc (.map #[] 0)) := fun _ => rfl
  clear hd hT hp hn hpl hnl hpo hno
  go_enter Tryd.func20, Tryd.ntmps20
  go_wp2_with (fail)
  generalize hW : ((((w.alloc (Obj.cells #[Value.slice Ap p.length cp] 41)).alloc (Obj.cells #[Value.slice An n.length cn] 41)).alloc (Obj.map #[] 0)).alloc (Obj.cells #[Value.map (some (w.heap.size + 1 + 1))] 53)).alloc _ = W
  have hmade := MapIs.made ((w.alloc (Obj.cells #[Value.slice Ap p.length cp] 41)).alloc (Obj.cells #[Value.slice An n.length cn] 41)) Tryd.prog 55
  have hb2 := fun o1 o2 => ((Below.refl _ (((w.alloc (Obj.cells #[Value.slice Ap p.length cp] 41)).alloc (Obj.cells #[Value.slice An n.length cn] 41)).alloc (Obj.map #[] 0))).alloc (Nat.le_refl _) o1).alloc (by simp) o2
  have hS : DS w p n Ap An cp cn w.heap.size (w.heap.size + 1) (w.heap.size + 1 + 1 + 1) (w.heap.size + 1 + 1 + 1 + 1) (w.heap.size + 1 + 1) W := by
    refine ⟨?_, ?_, ?_, ?_, ?_, 0, (fun _ => none), ?_, fun i j h => (by cases h), fun x v h => (by cases h)⟩
    · rw [← hW]; exact (((((Below.refl _ w).alloc (Nat.le_refl _) _).alloc (by simp) _).alloc (by simp; omega) _).alloc (by simp; omega) _).alloc (by simp; omega) _
    · rw [← hW]; simp [go_sem]
    · rw [← hW]; simp [go_sem]
    · rw [← hW]; simp [go_sem]
    · rw [← hW]; simp [go_sem]
    · rw [← hW]
      have := fun o2 => hmade.below (hb2 (Obj.cells #[Value.map (some (w.heap.size + 1 + 1))] 53) o2)
      simpa using this _
  refine (HD.out _ _ _ _ _ (by omega) W hS).mono ?_
  rintro e w1 ⟨rfl, hS1⟩
  have HB := Lib.hid hS1.below
  clear hS1 hS hW hmade hb2
  go_wp2_with (fail)
  go_ret
  exact ⟨by simp, HB.out⟩

theorem matchG_off {p s : List UInt8} (h : okG p = false ∨ pathOK s = false) : matchG p s = false := by
  unfold matchG
  rcases h with h | h
  · rw [h]; rfl
  · rw [h, Bool.and_false]; rfl
theorem matchG_slash {p s : List UInt8} (h1 : okG p = true) (h2 : pathOK s = true) (h3 : p ≠ [42, 42]) (h4 : 47 ∈ p) : matchG p s = partsP (parts p) (parts s) := by
  unfold matchG; rw [h1, h2, if_neg h3, if_pos h4]; rfl
theorem matchG_base {p s : List UInt8} (h1 : okG p = true) (h2 : pathOK s = true) (h3 : p ≠ [42, 42]) (h4 : 47 ∉ p) : matchG p s = partP p (baseM s) := by
  unfold matchG; rw [h1, h2, if_neg h3, if_neg h4]; rfl
theorem sum_mem {l : List (List UInt8)} {x : List UInt8} (h : x ∈ l) : x.length ≤ (joinS l).length := by
  rw [join_length]
  have : ∀ {l : List (List UInt8)}, x ∈ l → x.length ≤ (l.map List.length).sum := by
    intro l
    induction l with
    | nil => intro h; cases h
    | cons y l ih =>
      intro h
      rw [List.map_cons, List.sum_cons]
      rcases List.mem_cons.1 h with rfl | h
      · omega
      · have := ih h; omega
  have := this h
  omega
theorem part_len {s x : List UInt8} (h : x ∈ parts s) : x.length ≤ s.length := by
  have := sum_mem h
  rwa [join_parts] at this
theorem name_valid {x : List UInt8} (h : nameOK x = true) : Lib.validD x = true := by
  unfold nameOK at h
  simp only [Bool.and_eq_true] at h
  exact h.1.1.2
theorem contains_slash (p : List UInt8) : Lib.indexByte p 47 = -1 ↔ 47 ∉ p := by
  constructor
  · intro h hm
    obtain ⟨q, r, rfl, hq⟩ := first_c (c := 47) p hm
    rw [ib_first q r hq] at h
    omega
  · exact ib_none

set_option maxHeartbeats 2000000 in
theorem Match_all (p s : List UInt8) (m : Int) (w : World) (hL : Laid w m) :
    Calls Tryd.prog 9 #[.string ⟨p.toArray⟩, .string ⟨s.toArray⟩] w (Ret w (.bool (matchG p s))) := by
  have hC := Check_all p w hL.tabs
  have HL := Lib.hid (fun W (h : Below w.heap.size w W) => hL.below h)
  have HPP := Lib.hid (fun W (h : Laid W m) => Path_any s W h.tabs)
  cases hok : okG p with
  | false =>
    have HR := Lib.hid (matchG_off (s := s) (.inl hok))
    have he : (((checkP 400 p).2 : Int) != 0) = true := by
      unfold okG at hok
      rw [beq_eq_false_iff_ne] at hok
      rw [bne_iff_ne]; omega
    generalize (checkP 400 p).2 = e at *
    generalize (checkP 400 p).1 = k at *
    have HC := Lib.hid hC
    clear hC hok hL HL HPP
    go_enter Tryd.func9, Tryd.ntmps9
    go_wp2_with (fail)
    refine HC.out.mono ?_
    rintro e w1 ⟨rfl, hw1⟩
    go_wp2_with (fail)
    go_ret
    exact ⟨by rw [HR.out]; rfl, hw1⟩
  | true =>
    have hck := okG_ok hok
    have he : (checkP 400 p).2 = 0 := okG_iff.1 hok
    rw [he] at hC
    generalize (checkP 400 p).1 = k at *
    have HC := Lib.hid hC
    clear hC he
    cases hpa : pathOK s with
    | false =>
      have HR := Lib.hid (matchG_off (p := p) (.inr hpa))
      rw [hpa] at HPP
      clear hok hL hpa hck
      go_enter Tryd.func9, Tryd.ntmps9
      go_wp2_with (fail)
      refine HC.out.mono ?_
      rintro e w1 ⟨rfl, hw1⟩
      go_wp2_with (fail)
      refine (HPP.out _ (HL.out _ hw1)).mono ?_
      rintro e w2 ⟨rfl, hw2⟩
      go_wp2_with (fail)
      go_ret
      exact ⟨by rw [HR.out]; rfl, hw1.trans (hw2.mono hw1.size)⟩
    | true =>
      rw [hpa] at HPP
      by_cases h2 : p = [42, 42]
      · subst h2
        have HR := Lib.hid (matchG_2stars hpa)
        clear hok hL hpa hck
        go_enter Tryd.func9, Tryd.ntmps9
        go_wp2_with (fail)
        refine HC.out.mono ?_
        rintro e w1 ⟨rfl, hw1⟩
        go_wp2_with (fail)
        refine (HPP.out _ (HL.out _ hw1)).mono ?_
        rintro e w2 ⟨rfl, hw2⟩
        go_wp2_with (fail)
        go_ret
        exact ⟨by rw [HR.out]; rfl, hw1.trans (hw2.mono hw1.size)⟩
      have h2b : (p == [42, 42]) = false := by rw [beq_eq_false_iff_ne]; exact h2
      have hcon := fun W => Tryd.strings_Contains_one ⟨p.toArray⟩ 47 W
      obtain ⟨hne, h400, hv, hparts⟩ := hck
      have hs400 := pathOK_len hpa
      have hnames := fun x (hx : x ∈ parts s) => name_valid (pathOK_mem hpa hx)
      by_cases h47 : 47 ∈ p
      · have hct : decide (0 ≤ Lib.indexByte p 47) = true := by
          rw [decide_eq_true_eq]
          obtain ⟨q, r, e, hq⟩ := first_c (c := 47) p h47
          rw [e, ib_first q r hq]; omega
        rw [show (ByteArray.mk p.toArray).data.toList = p from rfl, hct] at hcon
        have HR := Lib.hid (matchG_slash hok hpa h2 h47)
        have HCON := Lib.hid hcon
        have HSP := Lib.hid (fun W (h : Laid W m) => strSplit_any p 47 m W (by omega) h.max)
        have hns := fun W (h : Laid W m) => Split_any s m W h
        rw [show splitM s = parts s by unfold splitM; rw [hpa]; rfl] at hns
        have HNS := Lib.hid hns
        have hpl1 : (parts p).length ≤ 65536 := by rw [parts_length]; have := List.count_le_length (a := (47 : UInt8)) (l := p); omega
        have hpl2 : (parts s).length ≤ 65536 := by rw [parts_length]; have := List.count_le_length (a := (47 : UInt8)) (l := s); omega
        have HPA := Lib.hid (fun A c B d W (hT : Tabs W) h1 h2 => parts_any (parts p) (parts s) A B c d W hT h1 h2 hpl1 hpl2 (fun x hx => ⟨(hparts x hx).1, (hparts x hx).2, by have := part_len hx; omega⟩) (fun x hx => ⟨hnames x hx, by have := part_len hx; omega⟩))
        have HPE := Lib.hid (show parts p = cutAt 47 [] p from rfl)
        clear hok hL hpa hcon hct hns hnames hparts hv hpl1 hpl2 h47 h2
        rw [← HPE.out] at HSP
        generalize parts p = lp at *
        generalize parts s = ls at *
        go_enter Tryd.func9, Tryd.ntmps9
        go_wp2_with (fail)
        refine HC.out.mono ?_
        rintro e w1 ⟨rfl, hw1⟩
        go_wp2_with (fail)
        refine (HPP.out _ (HL.out _ hw1)).mono ?_
        rintro e w2 ⟨rfl, hw2⟩
        have hB2 := hw1.trans (hw2.mono hw1.size)
        clear hw1 hw2
        go_wp2_with (fail)
        refine (HCON.out _).mono ?_
        rintro e w2b ⟨rfl, rfl⟩
        go_wp2_with (fail)
        refine (HSP.out _ (HL.out _ hB2)).mono ?_
        rintro e w3 ⟨A, c, rfl, hc, hm, hr, hw3, hA0⟩
        have hB3 := hB2.trans (hw3.mono hB2.size)
        clear hw3 hB2
        go_wp2_with (fail)
        refine (HNS.out _ (HL.out _ hB3)).mono ?_
        rintro e w4 ⟨B, d, rfl, hd, hm2, hr2, hw4, hA02⟩
        have hB4 := hB3.trans (hw4.mono hB3.size)
        have hr4 := hr.below hw4
        clear hw4 hB3 hr
        go_wp2_with (fail)
        refine (HPA.out A c B d w4 (HL.out _ hB4).tabs hr4 hr2).mono ?_
        rintro e w5 ⟨rfl, hw5⟩
        go_wp2_with (fail)
        go_ret
        exact ⟨by rw [HR.out]; rfl, hB4.trans (hw5.mono hB4.size)⟩
      · have hct : decide (0 ≤ Lib.indexByte p 47) = false := by
          rw [decide_eq_false_iff_not, ib_none h47]; omega
        rw [show (ByteArray.mk p.toArray).data.toList = p from rfl, hct] at hcon
        have hpp : Lib.validD p = true ∧ wfP p = true := hparts p (by rw [parts_none p h47]; simp)
        have hbv : Lib.validD (baseM s) = true ∧ (baseM s).length ≤ s.length := by
          rw [base_last hpa]
          have hm : (parts s).getLast (parts_ne s) ∈ parts s := List.getLast_mem _
          exact ⟨hnames _ hm, part_len hm⟩
        have HR := Lib.hid (matchG_base hok hpa h2 h47)
        have HCON := Lib.hid hcon
        have HBS := Lib.hid (fun W (h : Laid W m) => Base_any s W h.tabs (by omega))
        have HPT := Lib.hid (fun W (h : Laid W m) => part_any p (baseM s) W h.tabs hpp.1 hpp.2 hbv.1 (by omega) (by omega))
        clear hok hL hpa hcon hct hnames hparts hv hpp hbv h47 h2
        generalize baseM s = bs at *
        go_enter Tryd.func9, Tryd.ntmps9
        go_wp2_with (fail)
        refine HC.out.mono ?_
        rintro e w1 ⟨rfl, hw1⟩
        go_wp2_with (fail)
        refine (HPP.out _ (HL.out _ hw1)).mono ?_
        rintro e w2 ⟨rfl, hw2⟩
        have hB2 := hw1.trans (hw2.mono hw1.size)
        clear hw1 hw2
        go_wp2_with (fail)
        refine (HCON.out _).mono ?_
        rintro e w2b ⟨rfl, rfl⟩
        go_wp2_with (fail)
        refine (HBS.out _ (HL.out _ hB2)).mono ?_
        rintro e w3 ⟨rfl, hw3⟩
        have hB3 := hB2.trans (hw3.mono hB2.size)
        clear hw3 hB2
        go_wp2_with (fail)
        refine (HPT.out _ (HL.out _ hB3)).mono ?_
        rintro e w4 ⟨rfl, hw4⟩
        go_wp2_with (fail)
        go_ret
        exact ⟨by rw [HR.out]; rfl, hB3.trans (hw4.mono hB3.size)⟩
theorem Match_any (p s : List UInt8) (m : Int) (w : World) (hL : Laid w m) (_ : p.length ≤ 9223372036854775807) (_ : s.length ≤ 9223372036854775807) :
    Calls Tryd.prog 9 #[.string ⟨p.toArray⟩, .string ⟨s.toArray⟩] w (Ret w (.bool (matchG p s))) := Match_all p s m w hL
end Go.Proofs.YtgppfcaghjbjmaaDoor
end

/- hawserlaw02.awake. -/
section
namespace Go.Proofs.YtgppfcaghjbjmaaDoor
open Go.RowKit Plain

section
variable {R : Type}
def starE (g : List R → Bool) : List R → Bool
  | [] => g []
  | r :: n => g (r :: n) || starE g n
/-- the same as matchT, in a form that reduces -/
def matchE : List (Option (R → Bool)) → List R → Bool
  | [] => fun n => n.isEmpty
  | none :: p => fun n => starE (matchE p) n
  | some f :: p => fun n => match n with
    | [] => false
    | r :: n => f r && matchE p n
theorem matchE_T : ∀ (p : List (Option (R → Bool))) (n : List R), matchT p n = matchE p n
  | [], n => by simp only [matchT]; rfl
  | some f :: p, [] => by simp only [matchT]; rfl
  | some f :: p, r :: n => by
    simp only [matchT]
    rw [matchE_T p n]; rfl
  | none :: p, n => by
    rw [matchT_none]
    show _ = starE (matchE p) n
    induction n with
    | nil => rw [matchS_nil, matchE_T p]; rfl
    | cons r n ih => rw [matchS_cons, matchE_T p, ih]; rfl
end
def partE (p n : List UInt8) : Bool := matchE (toksP p) (runesP n)
def partsE (l n : List (List UInt8)) : Bool := matchE (l.map fun p => if p = [42, 42] then none else some (partE p)) n
theorem partE_P : partP = partE := by funext p n; unfold partP partE; rw [matchE_T]
theorem partsE_P (l n : List (List UInt8)) : partsP l n = partsE l n := by
  unfold partsP partsE
  rw [matchE_T, show partsTok = fun p => if p = [42, 42] then none else some (partE p) from by funext p; unfold partsTok; rw [partE_P]]
theorem awg1 : matchG [97, 47, 42, 46, 103, 111] [97, 47, 98, 46, 103, 111] = true := by
  rw [matchG_slash (by decide +kernel) (by decide +kernel) (by decide) (by decide), partsE_P]; decide +kernel
theorem awg2 : matchG [97, 47, 42, 46, 103, 111] [97, 47, 99, 47, 98, 46, 103, 111] = false := by
  rw [matchG_slash (by decide +kernel) (by decide +kernel) (by decide) (by decide), partsE_P]; decide +kernel
theorem awg3 : matchG [42, 46, 103, 111] [97, 47, 99, 47, 98, 46, 103, 111] = true := by
  rw [matchG_base (by decide +kernel) (by decide +kernel) (by decide) (by decide), partE_P]; decide +kernel

theorem awake_any (m : Int) (w : World) (hL : Laid w m) : Calls Tryd.prog 8 #[] w (Ret w (.bool true)) := by
  have hM := fun p s W (h : Below w.heap.size w W) (hp : p.length ≤ 100) (hs : s.length ≤ 100) => Match_any p s m W (hL.below h) (by omega) (by omega)
  have h1 := fun W h => hM [97, 47, 42, 46, 103, 111] [97, 47, 98, 46, 103, 111] W h (by decide) (by decide)
  have h2 := fun W h => hM [97, 47, 42, 46, 103, 111] [97, 47, 99, 47, 98, 46, 103, 111] W h (by decide) (by decide)
  have h3 := fun W h => hM [42, 46, 103, 111] [97, 47, 99, 47, 98, 46, 103, 111] W h (by decide) (by decide)
  rw [awg1] at h1
  rw [awg2] at h2
  rw [awg3] at h3
  have H1 := Lib.hid h1
  have H2 := Lib.hid h2
  have H3 := Lib.hid h3
  clear h1 h2 h3 hM hL
  go_enter Tryd.func8, Tryd.ntmps8
  go_wp2_with (fail)
  refine (H1.out w (Below.refl _ _)).mono ?_
  rintro e w1 ⟨rfl, hB1⟩
  go_wp2_with (fail)
  refine (H2.out w1 hB1).mono ?_
  rintro e w2 ⟨rfl, hw2⟩
  have hB2 := hB1.trans (hw2.mono hB1.size)
  clear hw2 hB1
  go_wp2_with (fail)
  refine (H3.out w2 hB2).mono ?_
  rintro e w3 ⟨rfl, hw3⟩
  have hB3 := hB2.trans (hw3.mono hB2.size)
  clear hw3 hB2
  go_wp2_with (fail)
  go_ret
  exact ⟨rfl, hB3⟩
end Go.Proofs.YtgppfcaghjbjmaaDoor
end

/- The closing of a law's statement: whatever the law's arguments, it answers true and leaves old memory as it was. -/
section
namespace Go.Proofs.YtgppfcaghjbjmaaDoor
open Go.ChangeShapes Go.WideShapes Go.ChangeAt Go.RowKit

theorem own : ownKnob Tryd.prog.godebug = none := by kernel_rfl
theorem laidOut : laidOutB Tryd.prog = true := by kernel_rfl

section
variable {H : Type} {enc : TypeId × Value → H} {P : Program}
theorem trodAll_below (hl : laidOutB P = true) {W W' : World} (hb : Below W.heap.size W W') : ∀ {ts : List TypeId} {vs : List Value} {ds : List (DataW H)} {ps : List MemPlace},
    DataW.TrodAll enc P W 0 (fun _ => true) true ts vs ds ps → (ts.all fun t => P.readableRec t && decide (t < P.types.size)) = true → (∀ x ∈ ps, x.block < W.heap.size) →
    DataW.TrodAll enc P W' 0 (fun b => decide (b < W.heap.size)) true ts vs ds ps
  | [], [], [], _, h, _, _ => h
  | t :: ts, v :: vs, d :: ds, ps, h, hr, hlt => by
    obtain ⟨p, q, h1, h2, rfl⟩ := h
    simp only [List.all_cons, Bool.and_eq_true, decide_eq_true_eq] at hr
    exact ⟨p, q, Below.trod hl hr.1.1 hr.1.2 h1 hb (fun x hx => hlt x (List.mem_append_left _ hx)), trodAll_below hl hb h2 (by simpa using hr.2) (fun x hx => hlt x (List.mem_append_right _ hx)), rfl⟩
  | [], [], _ :: _, _, h, _, _ => h.elim
  | [], _ :: _, _, _, h, _, _ => h.elim
  | _ :: _, [], _, _, h, _, _ => h.elim
  | _ :: _, _ :: _, [], _, h, _, _ => h.elim

theorem law_post {f : Func} {s : ChangeSpec} {W W' : World} {args : Array Value} {ds gs : List (DataW H)} {before : List MemPlace} {tb : TypeId}
    (hvars : s.vars = []) (hW : DataW.Whole enc P f.params.toList s.vars false W args.toList ds gs before)
    (hfn : s.fn H (ds ++ gs) = { results := [.lit (.bool true)], args := ds }) (hres : f.resultTypes = #[tb]) (htb : P.underlying tb = some .bool)
    (hread : (f.params.toList.all fun t => P.readableRec t && decide (t < P.types.size)) = true) (hl : laidOutB P = true) (hb : Below W.heap.size W W') :
    s.post enc P f false true false false W args (.bool true) W' := by
  have hW' := hW
  obtain ⟨p, q, hA, hV, hpq, hfz, hnd⟩ := hW
  refine ⟨ds, gs, before, [], p, [], hW', ?_, ?_, ?_, ?_, fun h => by cases h⟩
  · rw [hfn, hres]
    exact trodAll_mk1 (shut_bool htb _)
  · rw [hfn]
    exact trodAll_below hl hb hA hread (fun x hx => hW'.lt x (by rw [hpq]; exact List.mem_append_left _ hx))
  · rw [hfn, hvars]
    exact rfl
  · exact hb.frame _
end

end Go.Proofs.YtgppfcaghjbjmaaDoor
end

/- Opening of arguments: lists of texts; what the bound of the second form gives. -/
section
namespace Go.Proofs.YtgppfcaghjbjmaaDoor
open Go.ChangeShapes Go.WideShapes Go.ChangeAt Go.RowKit

section
variable {H : Type} {enc : TypeId × Value → H} {P : Program} {w : World} {base : Nat} {held : Bool}

theorem toList_mk (s : ByteArray) : (⟨s.data.toList.toArray⟩ : ByteArray) = s := by cases s; simp

/-- A []string among the arguments: the texts that it reads as. -/
theorem open_texts {r : Reach} {b0 : Nat} {t e : TypeId} {v : Value} {d : DataW H} {ps : List MemPlace} (ht : P.underlying t = some (.slice e)) (he : P.underlying e = some .string) (hc : P.cellsOf e = 1)
    (hval : Value.okWide P w r b0 t v) (hd : DataW.Trod enc P w base (fun _ => true) held t v d ps) :
    ∃ A c, ∃ l : List (List UInt8), v = .slice A l.length c ∧ l.length ≤ c ∧ c ≤ maxLen ∧ Reads w 1 A l.length (strs l) ∧ (∀ s ∈ l, s.length ≤ maxLen) ∧
      ((d = .nil ∧ l = []) ∨ ∃ sp, d = .slice (l.map fun s => .lit (.string s)) sp) := by
  obtain ⟨a0, len, cap, rfl⟩ := okWide_slice ht hval
  obtain ⟨fuel, hf⟩ := hd
  rcases open_strings ht he hc hf with ⟨hcs, hx⟩ | ⟨a, len', cap', ss, hcs, _, hl, hm, hz, hx, hcell, hws⟩
  · simp [Value.cells] at hcs
    obtain ⟨rfl, rfl, rfl⟩ := hcs
    simp only [Prod.mk.injEq] at hx
    exact ⟨none, 0, [], rfl, Nat.le_refl _, Nat.zero_le _, Reads.nil _ _ _, by simp, .inl ⟨hx.1, rfl⟩⟩
  · simp [Value.cells] at hcs
    obtain ⟨rfl, rfl, rfl⟩ := hcs
    simp only [if_true] at hz
    simp only [Prod.mk.injEq] at hx
    have hlen : ((ss.take len).map fun s => s.data.toList).length = len := by simp; omega
    refine ⟨some a, cap, (ss.take len).map fun s => s.data.toList, by rw [hlen], by omega, hm, ⟨by rw [strs_length, Nat.mul_one], fun _ => ⟨a, rfl, fun j u hu => ?_⟩⟩, ?_, .inr ⟨_, by rw [hx.1, List.map_map]; rfl⟩⟩
    · have hj : j < len := by
        have := (List.getElem?_eq_some_iff.1 hu).1
        rw [strs_length, hlen] at this
        exact this
      rw [hcell j (by omega)]
      have hjs : j < ss.length := by omega
      rw [strs, List.map_map, List.getElem?_map, List.getElem?_take_of_lt hj, List.getElem?_eq_getElem hjs] at hu
      simp only [Option.map_some, Option.some.injEq] at hu
      rw [← hu]
      simp [strV, List.getD, hjs]
    · intro s hs
      simp only [List.mem_map] at hs
      obtain ⟨b, hb, rfl⟩ := hs
      have := hws b (List.mem_of_mem_take hb)
      simpa using this

/-! ### The bound of the second form -/
theorem bulk_one (d : DataW H) : 1 ≤ Rows.uptoBulk d := by
  cases d with
  | lit l => cases l <;> simp [Rows.uptoBulk]
  | nil => simp [Rows.uptoBulk]
  | ptr d => simp [Rows.uptoBulk]
  | slice elems spare => simp [Rows.uptoBulk]
  | agg parts => simp [Rows.uptoBulk]
  | iface t d => simp [Rows.uptoBulk]
  | map entries => simp [Rows.uptoBulk]
  | held h => simp [Rows.uptoBulk]

theorem bulk_bound {l : List (DataW H)} (hk : Rows.uptoSmall H l = true) : Rows.uptoBulkAll l ≤ 1048576 := of_decide_eq_true hk

/-- the letters and places of a list of texts -/
def weight (l : List (List UInt8)) : Nat := (l.map fun s => s.length + 1).sum
theorem bulk_texts (l : List (List UInt8)) : Rows.uptoBulkAll (l.map fun s => (DataW.lit (.string s) : DataW H)) = weight l := by
  unfold weight
  induction l with
  | nil => simp [Rows.uptoBulkAll]
  | cons s l ih => simp only [List.map_cons, Rows.uptoBulkAll, ih, Rows.uptoBulk, List.sum_cons]
theorem weight_le_bulk {l : List (List UInt8)} {d : DataW H} (h : (d = .nil ∧ l = []) ∨ ∃ sp, d = .slice (l.map fun s => .lit (.string s)) sp) : weight l ≤ Rows.uptoBulk d := by
  rcases h with ⟨rfl, rfl⟩ | ⟨sp, rfl⟩
  · simp [weight]
  · simp only [Rows.uptoBulk, bulk_texts]; omega
theorem weight_length (l : List (List UInt8)) : l.length ≤ weight l := by
  unfold weight
  induction l with
  | nil => simp
  | cons s l ih => simp only [List.length_cons, List.map_cons, List.sum_cons]; omega
theorem weight_mem {l : List (List UInt8)} {s : List UInt8} (h : s ∈ l) : s.length + 1 ≤ weight l := by
  unfold weight
  induction l with
  | nil => cases h
  | cons t l ih =>
    simp only [List.map_cons, List.sum_cons]
    rcases List.mem_cons.1 h with rfl | h
    · omega
    · have := ih h; omega
end

end Go.Proofs.YtgppfcaghjbjmaaDoor
end

/- Opening of arguments: lists of numbers, lists of bools, lists of whatever one cell holds. -/
section
namespace Go.Proofs.YtgppfcaghjbjmaaDoor
open Go.ChangeShapes Go.WideShapes Go.ChangeAt Go.RowKit Go.Deep

section
variable {H : Type} {enc : TypeId × Value → H} {P : Program} {w : World} {base : Nat} {held : Bool}

theorem bulkAll_range (n : Nat) (D : Nat → DataW H) (f : Nat → Nat) (h : ∀ i, i < n → f i ≤ Rows.uptoBulk (D i)) : ((List.range n).map f).sum ≤ Rows.uptoBulkAll ((List.range n).map D) := by
  have key : ∀ l : List Nat, (∀ i ∈ l, i < n) → (l.map f).sum ≤ Rows.uptoBulkAll (l.map D) := by
    intro l
    induction l with
    | nil => intro _; simp [Rows.uptoBulkAll]
    | cons a l ih =>
      intro hl
      have h1 := ih (fun i hi => hl i (List.mem_cons_of_mem _ hi))
      have h2 := h a (hl a (List.mem_cons_self ..))
      simp only [List.map_cons, List.sum_cons, Rows.uptoBulkAll]
      omega
  exact key _ (fun i hi => List.mem_range.1 hi)

/-- A slice of cells among the arguments: what its cells read as, and its weight. -/
theorem open_list1 {α : Type} [Inhabited α] (El : Value → α → Prop) (wt : α → Nat) {r : Reach} {b0 : Nat} {t e : TypeId} {v : Value} {d : DataW H} {ps : List MemPlace} (ht : P.underlying t = some (.slice e)) (hc : P.cellsOf e = 1)
    (hel : ∀ v d ps n, DataW.trod enc P w base (fun _ => true) held n e [v] = some (d, ps) → ∃ x, El v x ∧ wt x ≤ Rows.uptoBulk d)
    (hval : Value.okWide P w r b0 t v) (hd : DataW.Trod enc P w base (fun _ => true) held t v d ps) :
    ∃ A c, ∃ (l : List α) (V : List Value), v = .slice A l.length c ∧ l.length ≤ c ∧ c ≤ maxLen ∧ V.length = l.length ∧ Reads w 1 A l.length V ∧ (∀ k (h : k < l.length) (h' : k < V.length), El V[k] l[k]) ∧ (l.map wt).sum ≤ Rows.uptoBulk d := by
  obtain ⟨a0, len, cap, rfl⟩ := okWide_slice ht hval
  obtain ⟨fuel, hf⟩ := hd
  rcases open_slice1 ht hc hf with ⟨hcs, hx⟩ | ⟨a, len', cap', m, n, V, D, Pl, hcs, _, hl, hm, hmm, hx, hcell⟩
  · simp [Value.cells] at hcs
    obtain ⟨rfl, rfl, rfl⟩ := hcs
    exact ⟨none, 0, [], [], rfl, Nat.le_refl _, Nat.zero_le _, rfl, Reads.nil _ _ _, by simp, by simp⟩
  · simp [Value.cells] at hcs
    obtain ⟨rfl, rfl, rfl⟩ := hcs
    simp only [if_true] at hmm
    subst hmm
    simp only [Prod.mk.injEq] at hx
    obtain ⟨X, hX⟩ := choose_lt (α := α) (p := fun i x => El (V i) x ∧ wt x ≤ Rows.uptoBulk (D i)) (n := len) (fun i hi => hel _ _ _ _ (hcell i (by omega)).2)
    refine ⟨some a, m, (List.range len).map X, (List.range len).map V, by simp, by simpa using hl, hm, by simp, ⟨by simp, fun _ => ⟨a, rfl, fun j u hu => ?_⟩⟩, ?_, ?_⟩
    · have hj : j < len := by have := (List.getElem?_eq_some_iff.1 hu).1; simpa using this
      rw [(hcell j (by omega)).1]
      simpa [hj] using hu
    · intro k h h'
      have hk : k < len := by simpa using h
      simpa using (hX k hk).1
    · rw [hx.1, Rows.uptoBulk, List.map_map]
      have := bulkAll_range len D (fun i => wt (X i)) (fun i hi => (hX i hi).2)
      have e : ((List.range len).map (wt ∘ X)).sum = ((List.range len).map (fun i => wt (X i))).sum := rfl
      omega
end

/-- Numbers, bools as cells. -/
def ints (l : List Int) : List Value := l.map (Value.int .i64)
theorem ints_length (l : List Int) : (ints l).length = l.length := by simp [ints]
def bools (l : List Bool) : List Value := l.map Value.bool
theorem bools_length (l : List Bool) : (bools l).length = l.length := by simp [bools]
theorem Reads.int_at {w : World} {A : Option Addr} {l : List Int} {k : Nat} (h : Reads w 1 A l.length (ints l)) (hk : k < l.length) : ∃ ad, A = some ad ∧ w.cell? (ad.add k) = some (.int .i64 l[k]) := by
  obtain ⟨ad, u, hA, hu, hc⟩ := h.at_ hk
  have : (ints l)[k]? = some (.int .i64 l[k]) := by simp [ints, hk]
  rw [this] at hu
  injection hu with hu
  exact ⟨ad, hA, by rw [hc, hu]⟩
theorem Reads.bool_at {w : World} {A : Option Addr} {l : List Bool} {k : Nat} (h : Reads w 1 A l.length (bools l)) (hk : k < l.length) : ∃ ad, A = some ad ∧ w.cell? (ad.add k) = some (.bool l[k]) := by
  obtain ⟨ad, u, hA, hu, hc⟩ := h.at_ hk
  have : (bools l)[k]? = some (.bool l[k]) := by simp [bools, hk]
  rw [this] at hu
  injection hu with hu
  exact ⟨ad, hA, by rw [hc, hu]⟩

section
variable {H : Type} {enc : TypeId × Value → H} {P : Program} {w : World} {base : Nat} {held : Bool}
theorem sum_ge {α : Type} (l : List α) (f : α → Nat) (h : ∀ x ∈ l, 1 ≤ f x) : l.length ≤ (l.map f).sum := by
  induction l with
  | nil => simp
  | cons a l ih =>
    have h1 := ih (fun x hx => h x (List.mem_cons_of_mem _ hx))
    have h2 := h a (List.mem_cons_self ..)
    simp only [List.length_cons, List.map_cons, List.sum_cons]; omega
theorem open_intsR {r : Reach} {b0 : Nat} {t e : TypeId} {v : Value} {d : DataW H} {ps : List MemPlace} (ht : P.underlying t = some (.slice e)) (he : P.underlying e = some (.int .i64)) (hc : P.cellsOf e = 1)
    (hval : Value.okWide P w r b0 t v) (hd : DataW.Trod enc P w base (fun _ => true) held t v d ps) :
    ∃ A c, ∃ l : List Int, v = .slice A l.length c ∧ l.length ≤ c ∧ c ≤ maxLen ∧ Reads w 1 A l.length (ints l) ∧ (∀ n ∈ l, -9223372036854775808 ≤ n ∧ n ≤ 9223372036854775807) ∧ l.length ≤ Rows.uptoBulk d := by
  obtain ⟨A, c, l, V, h1, h2, h3, h4, h5, h6, h7⟩ := open_list1 (α := Int) (fun v n => v = .int .i64 n ∧ -9223372036854775808 ≤ n ∧ n ≤ 9223372036854775807) (fun _ => 1) ht hc (fun v d ps n h => by
    obtain ⟨m, hv, hx, hw⟩ := DataW.trod_int he h
    have hv' : v = .int .i64 m := by simpa using hv
    exact ⟨m, ⟨hv', bounds_i64 hw⟩, bulk_one d⟩) hval hd
  have hV : V = ints l := List.ext_getElem (by rw [h4, ints_length]) (fun k h h' => by rw [(h6 k (by omega) h).1]; simp [ints])
  subst hV
  refine ⟨A, c, l, h1, h2, h3, h5, fun n hn => ?_, Nat.le_trans (sum_ge l _ (by simp)) h7⟩
  obtain ⟨k, hk, rfl⟩ := List.getElem_of_mem hn
  exact (h6 k hk (by rw [ints_length]; exact hk)).2
theorem open_boolsR {r : Reach} {b0 : Nat} {t e : TypeId} {v : Value} {d : DataW H} {ps : List MemPlace} (ht : P.underlying t = some (.slice e)) (he : P.underlying e = some .bool) (hc : P.cellsOf e = 1)
    (hval : Value.okWide P w r b0 t v) (hd : DataW.Trod enc P w base (fun _ => true) held t v d ps) :
    ∃ A c, ∃ l : List Bool, v = .slice A l.length c ∧ l.length ≤ c ∧ c ≤ maxLen ∧ Reads w 1 A l.length (bools l) ∧ l.length ≤ Rows.uptoBulk d := by
  obtain ⟨A, c, l, V, h1, h2, h3, h4, h5, h6, h7⟩ := open_list1 (α := Bool) (fun v n => v = .bool n) (fun _ => 1) ht hc (fun v d ps n h => by
    obtain ⟨m, hv, hx⟩ := DataW.trod_bool he h
    exact ⟨m, by simpa using hv, bulk_one d⟩) hval hd
  have hV : V = bools l := List.ext_getElem (by rw [h4, bools_length]) (fun k h h' => by rw [h6 k (by omega) h]; simp [bools])
  subst hV
  exact ⟨A, c, l, h1, h2, h3, h5, Nat.le_trans (sum_ge l _ (by simp)) h7⟩
end
end Go.Proofs.YtgppfcaghjbjmaaDoor
end
