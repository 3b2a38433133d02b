/- Texts joined: Path, GenSplit, Strs, NameFns, Builder, Grow, Join, NameFns2, Order, Tree2, PlainSearch. -/
import Derived.Test.YtjajoiahgfafgaaGreatDoorBArchBares5
import Derived.Test.YtjajoiahgfafgaaGreatDoorBArchBares4
import Derived.Test.YtjajoiahgfafgaaGreatDoorBCodeBaseC1
import Derived.Test.YtjajoiahgfafgaaGreatDoorShelf
import Derived.Lib.LastIndexByte
import Derived.Lib.FrozenHead2
import Derived.Lib.OthersKept
import Derived.Lib.UnsafeStr
import Derived.Shelf.Strings.Builder2
import Derived.RegionTactic
import Derived.Lib.Join
set_option linter.unusedSimpArgs false
set_option linter.unusedVariables false

/- name.Path. -/
section
namespace Go.Proofs.YtjajoiahgfafgaaGreatDoor
open Go.RowKit Go.Shelf Plain
attribute [local go_sem] Oper.semAt_some

theorem pathOK_long {s : List UInt8} (h : 400 < s.length) : pathOK s = false := by unfold pathOK; rw [decide_eq_false (by omega)]; rfl
theorem pathOK_deep {s : List UInt8} (h : 16 ≤ s.count 47) : pathOK s = false := by unfold pathOK; rw [parts_length, decide_eq_false (show ¬ s.count 47 + 1 ≤ 16 by omega)]; simp
theorem pathOK_all {s : List UInt8} (h : s.length ≤ 400) (h2 : s.count 47 < 16) : pathOK s = (parts s).all nameOK := by
  unfold pathOK; rw [parts_length, decide_eq_true h, decide_eq_true (by omega)]; simp

theorem cell_new0 (W : World) (v : Value) (t : TypeId) : (W.alloc (.cells #[v] t)).cell? ⟨W.heap.size, 0, none⟩ = some v := by simp [go_sem]
theorem frozen_new0 (W : World) (v : Value) (t : TypeId) : (W.alloc (.cells #[v] t)).frozen? ⟨W.heap.size, 0, none⟩ = false := by simp [go_sem]
theorem results_cell_one {P : Program} {fn : Func} {p : Tmp} {ty : TypeId} (h : fn.results = #[.cell p ty]) (tmps : Array Value) (w : World) (a : Addr) (v : Value) (hp : tmps.getD p undef = .pointer (some a)) (hc : w.cell? a = some v)
    (hagg : ∀ w, (isAgg ty).run P w = .ok false w) : (results fn tmps).run P w = .ok v w := by
  have hp' : tmps[p]?.getD undef = .pointer (some a) := by simpa using hp
  simp [results, h, hp', asAddr, loadVar, hagg, hc, go_sem]

/-- What the loop keeps. -/
def PathI (w : World) (pre : List (List UInt8)) (W : World) : Prop :=
  (∀ x ∈ pre, nameOK x = true) ∧ Below w.heap.size w W ∧ W.cell? ⟨w.heap.size, 0, none⟩ = some (.bool false) ∧ W.frozen? ⟨w.heap.size, 0, none⟩ = false
def PathX (w : World) (pre : List (List UInt8)) (W : World) : Prop :=
  (∃ x ∈ pre, nameOK x = false) ∧ Below w.heap.size w W ∧ W.cell? ⟨w.heap.size, 0, none⟩ = some (.bool false)

set_option maxHeartbeats 4000000 in
theorem Path_any (s : List UInt8) (w : World) (hT : Tabs w) :
    Calls Tryz.prog 71 #[.string ⟨s.toArray⟩] w (Ret w (.bool (pathOK s))) := by
  by_cases h1 : 400 < s.length
  · rw [pathOK_long h1]
    have hc : decide ((400 : Int) < s.length) = true := by simp; omega
    go_enter Tryz.func71, Tryz.ntmps71
    go_wp2_with (fail)
    refine bodyPost_ret (v := .bool false) (results_cell_one Tryz.results71 _ _ ⟨w.heap.size, 0, none⟩ _ rfl ?_ Tryz.isAgg4) rfl ⟨rfl, ?_⟩
    · exact cell_new0 _ _ _
    exact (Below.refl _ _).alloc (Nat.le_refl _) _
  have hc : decide ((400 : Int) < s.length) = false := by simp; omega
  have HCnt := Lib.hid (fun W => Tryz.strings_Count_one ⟨s.toArray⟩ 47 W)
  rw [show Lib.countByte (ByteArray.mk s.toArray).data.toList 47 = s.count 47 from rfl] at HCnt
  by_cases h2 : 16 ≤ s.count 47
  · rw [pathOK_deep h2]
    generalize s.count 47 = cn at *
    have hc2 : decide ((16 : Int) ≤ cn) = true := by simp; omega
    go_enter Tryz.func71, Tryz.ntmps71
    go_wp2_with (fail)
    refine (HCnt.out _).mono ?_
    rintro e w1 ⟨rfl, rfl⟩
    go_wp2_with (fail)
    refine bodyPost_ret (v := .bool false) (results_cell_one Tryz.results71 _ _ ⟨w.heap.size, 0, none⟩ _ rfl ?_ Tryz.isAgg4) rfl ⟨rfl, ?_⟩
    · exact cell_new0 _ _ _
    exact (Below.refl _ _).alloc (Nat.le_refl _) _
  rw [pathOK_all (by omega) (by omega)]
  have hcn : s.count 47 < 16 := by omega
  have hs63 : s.length ≤ 4294967280 := by omega
  generalize s.count 47 = cn at *
  have hc2 : decide ((16 : Int) ≤ cn) = false := by simp; omega
  have HSQ := Lib.hid (fun W => SplitSeq_any s W)
  refine (callsIn_wide (n := 5)).1 ?_
  refine callsIn_of_wp_marks Tryz.func71 rfl trivial ?_ rfl
  simp only [Tryz.ntmps71, List.size_toArray, List.length_cons, List.length_nil, Nat.reduceAdd, Nat.reduceSub, Array.replicate_succ, Array.replicate_zero, List.push_toArray, List.append_toArray, List.nil_append, List.cons_append]
  gi_wp2
  refine ⟨trivial, (callsIn_wide.2 (HCnt.out _)).mono ?_⟩
  rintro e w1 ⟨rfl, rfl⟩
  gi_wp2
  refine ⟨trivial, (callsIn_wide.2 (HSQ.out _)).mono ?_⟩
  rintro e w1 ⟨rfl, hw1⟩
  have hsz : w1.heap.size = w.heap.size + 4 := by rw [hw1]; simp
  have hB0 : Below w.heap.size w w1 := by
    rw [hw1]; exact ((((Below.refl _ _).alloc (Nat.le_refl _) _).alloc (by simp) _).alloc (by simp; omega) _).alloc (by simp; omega) _
  have hc0 : w1.cell? ⟨w.heap.size, 0, none⟩ = some (.bool false) := by rw [hw1]; simp [go_sem]
  have hf0 : w1.frozen? ⟨w.heap.size, 0, none⟩ = false := by rw [hw1]; simp [go_sem]
  have hc1 : w1.cell? ⟨w.heap.size + 1, 0, none⟩ = some (.string ⟨s.toArray⟩) := by rw [hw1]; simp [go_sem]
  have hf1 : w1.frozen? ⟨w.heap.size + 1, 0, none⟩ = false := by rw [hw1]; simp [go_sem]
  have hc2' : w1.cell? ⟨w.heap.size + 1 + 1, 0, none⟩ = some (.string ⟨#[47]⟩) := by rw [hw1]; simp [go_sem]
  have hc3 : w1.cell? ⟨w.heap.size + 1 + 2, 0, none⟩ = some (.int .i64 0) := by rw [hw1]; simp [go_sem]
  rw [World.size_alloc]
  clear hw1
  have HB0 := Lib.hid hB0
  have HC := Lib.hid (And.intro hc0 (And.intro hf0 (And.intro hc1 (And.intro hf1 (And.intro hc2' hc3)))))
  have HSZ := Lib.hid hsz
  clear hsz hB0 hc0 hf0 hc1 hf1 hc2' hc3
  gi_wp2
  refine rangeFunc_own (n := 5) (gf := 145) (lb := #[.pointer (some ⟨w.heap.size + 1 + 1, 0, none⟩), .pointer (some ⟨w.heap.size + 1, 0, none⟩), .pointer (some ⟨w.heap.size + 1 + 2, 0, none⟩)]) ?c0 (enters_of Tryz.func145 (by kernel_rfl) rfl) (encs := fun x => #[.string ⟨x.toArray⟩]) (fun _ => rfl) (parts s) (PathI w) (PathX w) (w.heap.size + 1) (by rw [HSZ.out]; omega) ?hseq ?hst ?hput ?hxput ?h0
    (fun x => { tmps := #[.string ⟨s.toArray⟩, undef, .pointer (some ⟨w.heap.size, 0, none⟩), .string ⟨x.toArray⟩, .string ⟨s.toArray⟩, .int .i64 s.length, .bool false, .bool false, .string ⟨s.toArray⟩, .int .i64 cn, .bool false, .bool false, .string ⟨s.toArray⟩, .func (.func 145) #[] #[.pointer (some ⟨w.heap.size + 1 + 1, 0, none⟩), .pointer (some ⟨w.heap.size + 1, 0, none⟩), .pointer (some ⟨w.heap.size + 1 + 2, 0, none⟩)], .string ⟨x.toArray⟩, undef, undef, undef], defers := [] }) ?assign ?body ?done ?stop
  case c0 => rfl
  case hseq =>
    intro l J Jx W hold hst hY h0
    rw [HSZ.out] at hold hY
    have hcell : ∀ b, b < w.heap.size + 4 → W.cell? ⟨b, 0, none⟩ = w1.cell? ⟨b, 0, none⟩ ∧ W.frozen? ⟨b, 0, none⟩ = w1.frozen? ⟨b, 0, none⟩ := fun b hb => by
      have h := hold b hb
      unfold World.cell? World.frozen?
      simp only [h]
      exact ⟨trivial, trivial⟩
    obtain ⟨_, _, k1, k2, k3, k4⟩ := HC.out
    exact splitSeq1_in (5 - 1) l (w.heap.size + 1) (w.heap.size + 1 + 1) (w.heap.size + 1 + 2) (w.heap.size + 4) s J Jx hs63 (by omega) (by omega) (by omega) (by omega) (by omega) hY hst W
      ((hcell _ (by omega)).1.trans k1) ((hcell _ (by omega)).1.trans k3) ((hcell _ (by omega)).1.trans k4) ((hcell _ (by omega)).2.trans k2) h0
  case hst =>
    rintro pre W v ⟨h1, h2, h3, h4⟩
    exact ⟨h1, h2.setCell (by show w.heap.size ≤ w.heap.size + 1; omega) _, by rw [World.cell?_setCell_other _ _ _ _ (by intro e; injection e with e; omega)]; exact h3, by rw [World.frozen?_setCell]; exact h4⟩
  case hput =>
    rintro pre W l o hl ⟨h1, h2, h3, h4⟩
    rw [HSZ.out] at hl
    have hb := World.block_lt_of_cell? _ _ h3
    have hk : (W.putObj l o).heap[w.heap.size]? = W.heap[w.heap.size]? := World.putObj_heap_other (by omega)
    refine ⟨h1, below_put h2 (by omega) _, ?_, ?_⟩
    · rw [← h3]; unfold World.cell?; simp only [hk]
    · rw [← h4]; unfold World.frozen?; simp only [hk]
  case hxput =>
    rintro pre W l o hl ⟨h1, h2, h3⟩
    rw [HSZ.out] at hl
    have hk : (W.putObj l o).heap[w.heap.size]? = W.heap[w.heap.size]? := World.putObj_heap_other (by omega)
    refine ⟨h1, below_put h2 (by omega) _, ?_⟩
    rw [← h3]; unfold World.cell?; simp only [hk]
  case h0 =>
    intro o1 o2
    obtain ⟨k1, k2, _⟩ := HC.out
    have hlt := World.block_lt_of_cell? _ _ k1
    have hbb := (((Below.refl w1.heap.size w1).alloc (Nat.le_refl _) o1).alloc (by simp) o2)
    exact ⟨(fun x hx => by cases hx), HB0.out.trans (hbb.mono HB0.out.size), (hbb.cell (p := ⟨w.heap.size, 0, none⟩) hlt).trans k1, (hbb.frozen (p := ⟨w.heap.size, 0, none⟩) hlt).trans k2⟩
  case assign =>
    intro l x W K hK
    gi_wp2
    exact hK
  case body =>
    rintro l pre x W ⟨h1, h2, h3, h4⟩ hlt
    have hN := Name_any x W (Utf8Tabs_below hT h2)
    cases hx : nameOK x with
    | true =>
      rw [hx] at hN
      have HN := Lib.hid hN
      have HX := Lib.hid hx
      clear hN hx
      gi_wp2
      refine ⟨trivial, (CallsIn.inRound l (callsIn_wide.2 HN.out)).mono ?_⟩
      rintro e w2 ⟨rfl, hw2⟩
      gi_wp2
      have hb := World.block_lt_of_cell? _ _ h3
      refine ⟨fun k h1 h2 => hw2.block k h2, hw2.mono (by omega), fun y hy => ?_, h2.trans (hw2.mono h2.size), (hw2.cell (p := ⟨w.heap.size, 0, none⟩) hb).trans h3, (hw2.frozen (p := ⟨w.heap.size, 0, none⟩) hb).trans h4⟩
      rw [List.mem_append, List.mem_singleton] at hy
      rcases hy with hy | rfl
      · exact h1 y hy
      · exact HX.out
    | false =>
      rw [hx] at hN
      have HN := Lib.hid hN
      have HX := Lib.hid hx
      clear hN hx
      gi_wp2
      refine ⟨trivial, (CallsIn.inRound l (callsIn_wide.2 HN.out)).mono ?_⟩
      rintro e w2 ⟨rfl, hw2⟩
      have hb := World.block_lt_of_cell? _ _ h3
      have h3' := (hw2.cell (p := ⟨w.heap.size, 0, none⟩) hb).trans h3
      have h4' := (hw2.frozen (p := ⟨w.heap.size, 0, none⟩) hb).trans h4
      gi_wp2
      refine ⟨fun k q1 q2 => ?_, ⟨x, by simp, HX.out⟩, ?_, World.cell?_setCell_same' _ _ _ (by rw [h3']; rfl)⟩
      · rw [HSZ.out] at q1
        exact (Below.heap_setCell _ _ _ _ (by show k ≠ w.heap.size; omega)).trans (hw2.block k q2)
      · exact (h2.trans (hw2.mono h2.size)).setCell (Nat.le_refl _) _
  case done =>
    rintro W ⟨h1, h2, h3, h4⟩ hK
    have hall : (parts s).all nameOK = true := by rw [List.all_eq_true]; exact h1
    have HA := Lib.hid hall
    have H1 := Lib.hid h1
    clear hall h1
    have hlt := World.block_lt_of_cell? _ _ h3
    have hK' : (W.setCell ⟨w.heap.size, 0, none⟩ (.bool true)).heap[w1.heap.size]? = some (.deferred (some [])) := (Below.heap_setCell _ _ _ _ (by show w1.heap.size ≠ w.heap.size; rw [HSZ.out]; omega)).trans hK
    gi_wp2
    refine ⟨by simp, .inl ⟨_, _, rfl, run_takeDeferred hK', ?_⟩⟩
    have hcell : ((W.setCell ⟨w.heap.size, 0, none⟩ (.bool true)).putObj w1.heap.size (.deferred none)).cell? ⟨w.heap.size, 0, none⟩ = some (.bool true) := by
      have hk : ((W.setCell ⟨w.heap.size, 0, none⟩ (.bool true)).putObj w1.heap.size (.deferred none)).heap[w.heap.size]? = (W.setCell ⟨w.heap.size, 0, none⟩ (.bool true)).heap[w.heap.size]? := World.putObj_heap_other (by rw [HSZ.out]; omega)
      have h5 : (W.setCell ⟨w.heap.size, 0, none⟩ (.bool true)).cell? ⟨w.heap.size, 0, none⟩ = some (.bool true) := World.cell?_setCell_same' _ _ _ (by rw [h3]; rfl)
      rw [← h5]; unfold World.cell?; simp only [hk]
    refine ⟨_, results_cell_one Tryz.results71 _ _ ⟨w.heap.size, 0, none⟩ _ rfl hcell Tryz.isAgg4, ?_⟩
    exact ⟨by rw [HA.out], below_put (h2.setCell (Nat.le_refl _) _) (by rw [HSZ.out]; omega) _⟩
  case stop =>
    rintro pre W hpre ⟨⟨x, hx, hxf⟩, h2, h3⟩ hK
    have hall : (parts s).all nameOK = false := by
      rw [List.all_eq_false]
      exact ⟨x, hpre.subset hx, by rw [hxf]; decide⟩
    have HA := Lib.hid hall
    clear hall hx hxf
    gi_wp2
    refine ⟨by simp, .inl ⟨_, _, rfl, run_takeDeferred hK, ?_⟩⟩
    have hcell : (W.putObj w1.heap.size (.deferred none)).cell? ⟨w.heap.size, 0, none⟩ = some (.bool false) := by
      have hk : (W.putObj w1.heap.size (.deferred none)).heap[w.heap.size]? = W.heap[w.heap.size]? := World.putObj_heap_other (by rw [HSZ.out]; omega)
      rw [← h3]; unfold World.cell?; simp only [hk]
    refine ⟨_, results_cell_one Tryz.results71 _ _ ⟨w.heap.size, 0, none⟩ _ rfl hcell Tryz.isAgg4, ?_⟩
    exact ⟨by rw [HA.out], below_put h2 (by rw [HSZ.out]; omega) _⟩
end Go.Proofs.YtjajoiahgfafgaaGreatDoor
end

/- strings' cutting at one byte. -/
section
namespace Go.Proofs.YtjajoiahgfafgaaGreatDoor
open Go.RowKit Plain

theorem map_strs (l : List ByteArray) : l.map Value.string = strs (l.map (·.data.toList)) := by
  rw [strs, List.map_map]
  apply List.map_congr_left
  intro b _
  simp [strV]

end Go.Proofs.YtjajoiahgfafgaaGreatDoor
end

/- Lists of texts that are handed back; strings.Split at one byte. -/
section
namespace Go.Proofs.YtjajoiahgfafgaaGreatDoor
open Go.RowKit Plain

/-- a []string that reads as l; old memory as it was -/
def StrsOut (w : World) (l : List (List UInt8)) (e : Ending) (w' : World) : Prop := ∃ A c, e = .returned (.slice A l.length c) ∧ l.length ≤ c ∧ c ≤ maxLen ∧ Reads w' 1 A l.length (strs l) ∧ Below w.heap.size w w' ∧ (A = none → c = 0)

theorem of_own0 {w : World} {base : Nat} {e : TypeId} {size n : Nat} {v : Value} {xs : List Value} (h : w.ownsRow base e size v n xs) : ∃ A c, v = .slice A n c ∧ n ≤ c ∧ c ≤ maxLen ∧ Reads w size A n xs ∧ (A = none → c = 0) := by
  obtain ⟨A, c, rfl, h1, h2, h3⟩ := IsSlice.of_own h
  refine ⟨A, c, rfl, h1, h2, h3, fun e => ?_⟩
  subst e
  rcases h.2 with ⟨hv, h0⟩ | ⟨g, cap, cur, hv, _⟩
  · injection hv
  · injection hv with e1
    cases e1

theorem laid_strs (w : World) (l : List (List UInt8)) (e : TypeId) : Reads (w.alloc (.cells (strs l).toArray e)) 1 (some ⟨w.heap.size, 0, none⟩) l.length (strs l) :=
  ⟨by rw [strs_length]; omega, fun _ => ⟨_, rfl, fun j u hj => by
    rw [show (⟨w.heap.size, 0, none⟩ : Addr).add j = ⟨w.heap.size, j, none⟩ by unfold Addr.add; split <;> simp_all, cell_of_row _ _ _ (strs l).toArray e (0, 0) (heap_alloc_new w _)]
    simpa using hj⟩⟩
theorem info_string : (Tryz.prog.info? 9).map (fun i => (i.zero, i.size, i.bytes)) = some (some (.string ByteArray.empty), 1, 16) := by kernel_rfl

end Go.Proofs.YtjajoiahgfafgaaGreatDoor
end

/- name.Split, Parent, Base. -/
section
namespace Go.Proofs.YtjajoiahgfafgaaGreatDoor
open Go.RowKit Plain

/-- What a call may lean on. -/
structure Laid (w : World) (m : Int) : Prop where
  tabs : Tabs w
  max : w.cell? ⟨0, 0, none⟩ = some (.int .i64 m)
theorem Laid.below {w w' : World} {m : Int} (h : Laid w m) (hb : Below w.heap.size w w') : Laid w' m :=
  ⟨Utf8Tabs_below h.tabs hb, (hb.cell (p := ⟨0, 0, none⟩) (World.block_lt_of_cell? _ _ h.max)).trans h.max⟩

def splitM (s : List UInt8) : List (List UInt8) := if pathOK s then parts s else []


theorem lib_none {s : List UInt8} (h : 47 ∉ s) : Lib.lastIndexByte ⟨s.toArray⟩ 47 = -1 := by
  rcases Lib.lastIndexByte_spec ⟨s.toArray⟩ 47 with ⟨e, _⟩ | ⟨i, hi, _, hc, _⟩
  · exact e
  · exfalso
    have hi' : i < s.length := by simpa [ByteArray.size] using hi
    have : (s.toArray[i]!) = s[i] := by simp [hi']
    simp only [this] at hc
    exact h (by have e : s[i] = 47 := UInt8.toNat.inj (by simpa using Int.ofNat.inj hc); rw [← e]; exact List.getElem_mem hi')
theorem lib_last (p q : List UInt8) (h : 47 ∉ q) : Lib.lastIndexByte ⟨(p ++ 47 :: q).toArray⟩ 47 = p.length := by
  have hget : ∀ j, j < (p ++ 47 :: q).length → ((p ++ 47 :: q).toArray[j]!) = (p ++ 47 :: q).getD j 0 := fun j hj => by simp [List.getD]; rfl
  have hsz : (ByteArray.mk (p ++ 47 :: q).toArray).size = (p ++ 47 :: q).length := by simp [ByteArray.size]
  have hgp : (p ++ 47 :: q).getD p.length 0 = 47 := by simp [List.getD]
  have hpl : p.length < (p ++ 47 :: q).length := by simp
  rcases Lib.lastIndexByte_spec ⟨(p ++ 47 :: q).toArray⟩ 47 with ⟨_, hn⟩ | ⟨i, hi, e, hc, hn⟩
  · exfalso
    have := hn p.length (by rw [hsz]; exact hpl)
    simp only [hget _ hpl, hgp] at this
    exact this rfl
  · rw [e]
    rw [hsz] at hi hn
    simp only [hget _ hi] at hc
    rcases Nat.lt_trichotomy i p.length with hlt | heq | hgt
    · exfalso
      have := hn p.length hlt hpl
      simp only [hget _ hpl, hgp] at this
      exact this rfl
    · rw [heq]
    · exfalso
      have e2 : (p ++ 47 :: q).getD i 0 = 47 := UInt8.toNat.inj (by simpa using Int.ofNat.inj hc)
      obtain ⟨k, rfl⟩ : ∃ k, i = p.length + 1 + k := ⟨i - p.length - 1, by omega⟩
      have e3 : (p ++ 47 :: q).getD (p.length + 1 + k) 0 = q.getD k 0 := by
        simp only [List.getD]
        rw [List.getElem?_append_right (by omega), show p.length + 1 + k - p.length = k + 1 by omega]; rfl
      rw [e3] at e2
      have hk : k < q.length := by simp at hi; omega
      exact h (by rw [← e2]; simp [List.getD, hk])
theorem LastIndexS_any (s : List UInt8) (w : World) (hs : s.length ≤ 9223372036854775807) :
    Calls Tryz.prog 129 #[.string ⟨s.toArray⟩, .int .u8 47] w (Ret w (.int .i64 (Lib.lastIndexByte ⟨s.toArray⟩ 47))) := by
  have hsz : (ByteArray.mk s.toArray).size = s.length := by simp [ByteArray.size]
  have HL := Lib.hid (show Lib.lastIndexByte ⟨s.toArray⟩ 47 = Lib.lastIdx ⟨s.toArray⟩ 47 s.length by unfold Lib.lastIndexByte; rw [hsz])
  clear hsz
  go_enter Tryz.func129, Tryz.ntmps129
  go_wp2_with (fail)
  go_loopw [5] (fun t4 W => ∃ k : Nat, k ≤ s.length ∧ t4 = .int .i64 ((k : Int) - 1) ∧ Hid (Lib.lastIdx ⟨s.toArray⟩ 47 s.length = Lib.lastIdx ⟨s.toArray⟩ 47 k) ∧ Hid (Below w.heap.size w W)) (fun t4 _ => (intOf t4 + 1).toNat)
  case atStart => exact ⟨s.length, by omega, rfl, Lib.hid rfl, Lib.hid (Below.refl _ _)⟩
  case round =>
    obtain ⟨k, hk, rfl, HI, HB⟩ := hrel
    by_cases h0 : k = 0
    · subst h0
      go_wp2_with (fail)
      go_ret
      exact ⟨by rw [HL.out, HI.out]; rfl, HB.out⟩
    · obtain ⟨j, rfl⟩ : ∃ j, k = j + 1 := ⟨k - 1, by omega⟩
      have e1 : ((j + 1 : Nat) : Int) - 1 = j := by omega
      rw [e1]
      have i0 : (0 : Int) ≤ j := by omega
      have i1 : (j : Int) < s.length := by omega
      have hg : (s.toArray[j]!) = s[j]'(by omega) := by simp [show j < s.length by omega]
      have hn1 : ((j : Int)).toNat = j := by omega
      generalize hx : s[j]'(by omega) = x at *
      by_cases h47 : (x.toNat : Int) = 47
      · have HR := Lib.hid (HI.out.trans (Lib.lastIdx_hit ⟨s.toArray⟩ 47 j (by simp only [hg]; exact h47)))
        have hB : ((x.toNat : Int) == 47) = true := by simpa using h47
        clear h47 hg h0 e1
        go_wp2_with (fail)
        go_ret
        exact ⟨by rw [HL.out, HR.out]; rfl, HB.out⟩
      · have HR := Lib.hid (HI.out.trans (Lib.lastIdx_miss ⟨s.toArray⟩ 47 j (by simp only [hg]; exact h47)))
        have hB : ((x.toNat : Int) == 47) = false := by simpa using h47
        clear h47 hg h0 e1
        go_wp2_with (fail)
        go_roundw
        case rel => exact ⟨j, by omega, by go_num, HR, HB⟩
        case measure => simp [intOf]
theorem LastIndex_any (s : List UInt8) (w : World) (hs : s.length ≤ 9223372036854775807) :
    Calls Tryz.prog 99 #[.string ⟨s.toArray⟩, .int .u8 47] w (Ret w (.int .i64 (Lib.lastIndexByte ⟨s.toArray⟩ 47))) := by
  have HC := Lib.hid (LastIndexS_any s w hs)
  go_enter Tryz.func99, Tryz.ntmps99
  go_wp2_with (fail)
  refine HC.out.mono ?_
  rintro e w1 ⟨rfl, hw1⟩
  go_wp2_with (fail)
  go_ret
  exact ⟨rfl, hw1⟩

theorem Parent_any (s : List UInt8) (w : World) (hT : Tabs w) (hs : s.length ≤ 9223372036854775807) :
    Calls Tryz.prog 75 #[.string ⟨s.toArray⟩] w (Ret w (.string ⟨(parentM s).toArray⟩)) := by
  have hl := LastIndex_any s w hs
  by_cases h47 : 47 ∈ s
  · obtain ⟨p, q, rfl, hq⟩ := last_cut h47
    rw [lib_last p q hq] at hl
    have hp := fun W (hb : Below w.heap.size w W) => Path_any (p ++ 47 :: q) W (Utf8Tabs_below hT hb)
    have hpar := parent_cut p q hq
    have htk : (p ++ 47 :: q).take p.length = p := by simp
    have hpl : p.length < (p ++ 47 :: q).length := by simp
    have hf : pathOK (p ++ 47 :: q) = false → parentM (p ++ 47 :: q) = [] := fun e => by unfold parentM; rw [e]; rfl
    generalize p ++ 47 :: q = s at *
    have HL := Lib.hid hl
    clear hl h47
    cases hok : pathOK s with
    | true =>
      rw [hok] at hp
      have HP := Lib.hid hp
      have HPAR := Lib.hid (hpar hok)
      clear hp hok hpar hf
      go_enter Tryz.func75, Tryz.ntmps75
      go_wp2_with (fail)
      refine HL.out.mono ?_
      rintro e w1 ⟨rfl, hw1⟩
      go_wp2_with (fail)
      refine (HP.out _ hw1).mono ?_
      rintro e w2 ⟨rfl, hw2⟩
      go_wp2_with (fail)
      go_ret
      exact ⟨by rw [HPAR.out]; rfl, hw1.trans (hw2.mono hw1.size)⟩
    | false =>
      rw [hok] at hp
      have HP := Lib.hid hp
      have HPAR := Lib.hid (hf hok)
      clear hp hok hpar hf
      go_enter Tryz.func75, Tryz.ntmps75
      go_wp2_with (fail)
      refine HL.out.mono ?_
      rintro e w1 ⟨rfl, hw1⟩
      go_wp2_with (fail)
      refine (HP.out _ hw1).mono ?_
      rintro e w2 ⟨rfl, hw2⟩
      go_wp2_with (fail)
      go_ret
      exact ⟨by rw [HPAR.out]; rfl, hw1.trans (hw2.mono hw1.size)⟩
  · rw [lib_none h47] at hl
    rw [parent_none h47]
    have HL := Lib.hid hl
    clear hl h47
    go_enter Tryz.func75, Tryz.ntmps75
    go_wp2_with (fail)
    refine HL.out.mono ?_
    rintro e w1 ⟨rfl, hw1⟩
    go_wp2_with (fail)
    go_ret
    exact ⟨rfl, hw1⟩


theorem HasPrefix_any (s p : List UInt8) (w : World) :
    Calls Tryz.prog 102 #[.string ⟨s.toArray⟩, .string ⟨p.toArray⟩] w (Ret w (.bool (p.isPrefixOf s))) :=
  (Tryz.strings_HasPrefix ⟨s.toArray⟩ ⟨p.toArray⟩ w).mono fun _ _ ⟨he, hw⟩ => ⟨he, hw ▸ Below.refl _ _⟩
end Go.Proofs.YtjajoiahgfafgaaGreatDoor
end

/- Contracts of strings.Builder's methods at a builder that the call itself has made. -/
section
namespace Go.Proofs.YtjajoiahgfafgaaGreatDoor
open Go.RowKit

theorem sizeBuilder : (Tryz.prog.info? 65).map (·.size) = some 2 := by kernel_rfl
theorem info_byte : (Tryz.prog.info? 5).map (fun i => (i.zero, i.size, i.bytes)) = some (some (.int .u8 0), 1, 1) := by kernel_rfl
theorem liesBuilder : liesAt Tryz.prog Tryz.prog.depth 65 (2 / Tryz.prog.cellsOf 65) 0 65 1 = true := by kernel_rfl

set_option maxHeartbeats 400000 in
theorem copyCheck_used (b : Nat) (w : World) (h0 : w.cell? ⟨b, 0, none⟩ = some (.pointer (some ⟨b, 0, none⟩))) :
    Calls Tryz.prog 91 #[.pointer (some ⟨b, 0, none⟩)] w fun e w' => e = .returned (.tuple #[]) ∧ w' = w := by
  obtain ⟨j, hj, _⟩ := Option.map_eq_some_iff.1 sizeBuilder
  have hne := fun w => Lib.run_neq_ptr_same (P := Tryz.prog) w ⟨b, 0, none⟩ Tryz.underlying62 hj
  go_enter Tryz.func91, Tryz.ntmps91
  go_wp2_with (fail)
  go_end0
  exact ⟨rfl, rfl⟩

set_option maxHeartbeats 400000 in
theorem copyCheck_fresh (b : Nat) (w : World) (h0 : w.cell? ⟨b, 0, none⟩ = some (.pointer none)) (hsh : w.shape? b = some (65, 2)) (hfz : w.frozen? ⟨b, 0, none⟩ = false) :
    Calls Tryz.prog 91 #[.pointer (some ⟨b, 0, none⟩)] w fun e w' => e = .returned (.tuple #[]) ∧ w' = w.setCell ⟨b, 0, none⟩ (.pointer (some ⟨b, 0, none⟩)) := by
  obtain ⟨j, hj, hjs⟩ := Option.map_eq_some_iff.1 sizeBuilder
  have c1 := Lib.run_to_unsafe (P := Tryz.prog) w ⟨b, 0, none⟩ Tryz.underlying62 Tryz.underlying150 hj (by rw [hjs]; decide) hsh (Nat.zero_lt_succ 1)
  have c2 := Lib.run_from_unsafe (P := Tryz.prog) w ⟨b, 0, none⟩ Tryz.underlying150 Tryz.underlying62 hj hsh liesBuilder
  have c3 : ∀ (x : Value) w, (callFunc 118 #[x]).run Tryz.prog w = .ok (.value x) w := fun x w => by
    rw [run_callFunc_extern Tryz.func118 (by kernel_rfl) (by kernel_rfl) (by kernel_rfl) (e := Extern.AbiNoEscape.same) (by kernel_rfl), Lib.run_noEscape]
    rfl
  go_enter Tryz.func91, Tryz.ntmps91
  go_wp2_with (fail)
  go_end0
  exact ⟨rfl, rfl⟩

theorem copyCheck_any (B b : Nat) (bs : List Value) (w : World) (h : Lib.IsBuilderF 65 5 B b bs w) :
    Calls Tryz.prog 91 #[.pointer (some ⟨b, 0, none⟩)] w fun e w' => e = .returned (.tuple #[]) ∧
      (Lib.BuilderAtF 65 5 B b (.pointer (some ⟨b, 0, none⟩)) bs w' ∧ Below B w w' ∧ Lib.OthersKept 5 (some b) w w') := by
  rcases h with h | h
  · refine (copyCheck_fresh b w h.cell0 h.shape h.frozen0).mono ?_
    rintro e w' ⟨rfl, rfl⟩
    exact ⟨rfl, h.used _, (Below.refl B w).setCell (p := ⟨b, 0, none⟩) h.1 _, (Lib.OthersKept.refl _ _ w).setCell ⟨b, 0, none⟩ rfl _⟩
  · refine (copyCheck_used b w h.cell0).mono ?_
    rintro e w' ⟨rfl, rfl⟩
    exact ⟨rfl, h, Below.refl B _, Lib.OthersKept.refl _ _ _⟩

theorem builderAt_below {T e : TypeId} {B b : Nat} {p : Value} {bs : List Value} {w w' : World} (h : Lib.BuilderAtF T e B b p bs w) (hb : Below w.heap.size w w') : Lib.BuilderAtF T e B b p bs w' := by
  obtain ⟨hB, v, hbk, hown, hne⟩ := h
  have hlt : b < w.heap.size := by
    rcases Nat.lt_or_ge b w.heap.size with h' | h'
    · exact h'
    · simp [Array.getElem?_eq_none h'] at hbk
  exact ⟨hB, v, (hb.block b hlt).trans hbk, hown.kept (row := none) ⟨hb.os, hb.tape, hb.output, hb.size, fun k hk _ => hb.block k hk⟩ (by cases v.ownBlock <;> simp), hne⟩
/-- A builder is kept by a call that keeps old memory. -/
theorem builder_below {T e : TypeId} {B b : Nat} {bs : List Value} {w w' : World} (h : Lib.IsBuilderF T e B b bs w) (hb : Below w.heap.size w w') : Lib.IsBuilderF T e B b bs w' :=
  h.imp (fun h => builderAt_below h hb) (fun h => builderAt_below h hb)
theorem fresh_builder (w : World) : Lib.IsBuilderF 65 5 w.heap.size w.heap.size (Lib.byteCells []) (w.alloc (.cells #[.pointer none, .slice none 0 0] 65)) :=
  Lib.IsBuilderF.of (Lib.fresh_isBuilder _ _ w)

set_option maxHeartbeats 400000 in
theorem WriteString_any (B b : Nat) (bs : List Value) (s : ByteArray) (w : World) (h : Lib.IsBuilderF 65 5 B b bs w) (hlen : bs.length + s.size ≤ 140737488355328) (hBw : B ≤ w.heap.size) :
    Calls Tryz.prog 63 #[.pointer (some ⟨b, 0, none⟩), .string s] w fun e w' => e = .returned (.tuple #[.int .i64 s.size, .nilIface]) ∧
      (Lib.BuilderAtF 65 5 B b (.pointer (some ⟨b, 0, none⟩)) (bs ++ Lib.strCells s) w' ∧ Below B w w' ∧ Lib.OthersKept 5 (some b) w w') := by
  obtain ⟨i0, hi, hz0, hz1, hz2⟩ := info_parts info_byte
  go_enter Tryz.func63, Tryz.ntmps63
  go_wp2_with (fail)
  refine (copyCheck_any B b bs _ h).mono ?_
  rintro e w1 ⟨rfl, h1, hb1, hk1⟩
  obtain ⟨hB, v, hbk, hown, hne⟩ := h1
  have c0 : w1.cell? ⟨b, 0, none⟩ = some (.pointer (some ⟨b, 0, none⟩)) := by rw [Lib.cell_of_heap hbk]; rfl
  have c1 : w1.cell? ⟨b, 1, none⟩ = some v := by rw [Lib.cell_of_heap hbk]; rfl
  go_wp2_with (at_builtin; refine Lib.wpList_append_own_stringF _ rfl _ _ 63 9 rfl B 5 i0 Tryz.underlying63 Tryz.underlying9 hi hz0 hz1 hz2 _ _ _ rfl hown s rfl ?c3 ?c4 ?c5 ?_)
  case c3 => unfold maxLen; omega
  case c4 => omega
  case c5 => have := hb1.size; omega
  intro v' w2 hown' hgrow _
  have hlt : b < w1.heap.size := by
    rcases Nat.lt_or_ge b w1.heap.size with h' | h'
    · exact h'
    · simp [Array.getElem?_eq_none h'] at hbk
  have hb2 : w2.heap[b]? = some (.cells #[.pointer (some ⟨b, 0, none⟩), v] 65 (0, 0)) := by
    rw [hgrow.block b hlt (fun e => hne e.symm)]
    exact hbk
  have d0 : w2.cell? ⟨b, 0, none⟩ = some (.pointer (some ⟨b, 0, none⟩)) := by rw [Lib.cell_of_heap hb2]; rfl
  have d1 : w2.cell? ⟨b, 1, none⟩ = some v := by rw [Lib.cell_of_heap hb2]; rfl
  have f1 : w2.frozen? ⟨b, 1, none⟩ = false := Lib.frozen_of_heap hb2 1
  obtain ⟨ao, n', cap, rfl⟩ : ∃ ao n' cap, v' = .slice ao n' cap := by
    rcases hown'.2 with ⟨hv, _⟩ | ⟨g, cap, cur, fz, hv, _⟩
    · exact ⟨_, _, _, hv⟩
    · exact ⟨_, _, _, hv⟩
  go_wp2
  go_ret2
  refine ⟨rfl, ?_, ?_, (hk1.grown hgrow (Lib.ownsRowF_kind hown)).setCell ⟨b, 1, none⟩ rfl _⟩
  · exact Lib.BuilderAtF.put (T := 65) (e := 5) hB hb2 (bs' := bs ++ Lib.strCells s) (by simpa [Lib.strCells_length] using hown') (by decide)
  · exact (hb1.grown hgrow (by have := hb1.size; omega) (fun k hk => (hown.lt k hk).1)).setCell (p := ⟨b, 1, none⟩) hB _

/-- The same, by lists of bytes. -/
theorem WriteString_list (B b : Nat) (l s : List UInt8) (w : World) (h : Lib.IsBuilderF 65 5 B b (Lib.byteCells l) w) (hlen : l.length + s.length ≤ 140737488355328) (hBw : B ≤ w.heap.size) :
    Calls Tryz.prog 63 #[.pointer (some ⟨b, 0, none⟩), .string ⟨s.toArray⟩] w fun e w' => e = .returned (.tuple #[.int .i64 s.length, .nilIface]) ∧
      (Lib.IsBuilderF 65 5 B b (Lib.byteCells (l ++ s)) w' ∧ Below B w w' ∧ Lib.OthersKept 5 (some b) w w') :=
  (WriteString_any B b _ ⟨s.toArray⟩ w h (by simpa [Lib.byteCells_length, ByteArray.size] using hlen) hBw).mono fun e w' ⟨he, h1, h2, h3⟩ =>
    ⟨he, .inr (by rw [Lib.byteCells_append]; exact h1), h2, h3⟩

end Go.Proofs.YtjajoiahgfafgaaGreatDoor
end

/- strings.Builder: room is made in a new builder. -/
section
namespace Go.Proofs.YtjajoiahgfafgaaGreatDoor
open Go.RowKit

theorem cellsByte : Tryz.prog.cellsOf 5 = 1 := by kernel_rfl
theorem sizeByteN : ∃ i, Tryz.prog.info? 5 = some i ∧ i.size = 1 := by
  obtain ⟨i0, hi, hz0, hz1, hz2⟩ := info_parts info_byte
  exact ⟨i0, hi, hz1⟩

set_option maxHeartbeats 2000000 in
set_option maxRecDepth 100000 in
theorem grow_fresh (B b n : Nat) (w : World) (hB : B ≤ b) (hbk : w.heap[b]? = some (.cells #[.pointer (some ⟨b, 0, none⟩), .slice none 0 0] 65 (0, 0))) (hBw : B ≤ w.heap.size) (hn : n ≤ 281474976710656) :
    Calls Tryz.prog 133 #[.pointer (some ⟨b, 0, none⟩), .int .i64 n] w fun e w' => e = .returned (.tuple #[]) ∧ (Lib.BuilderAt 65 5 B b (.pointer (some ⟨b, 0, none⟩)) [] w' ∧ Below B w w') := by
  obtain ⟨cs, hrun, hle, hmax⟩ := Lib.run_makeNoZero (P := Tryz.prog) w.drew #[3] 63 5 Tryz.underlying63 n hn
  have hw : IntKind.i64.wrap (IntKind.i64.wrap 0 + (n : Int)) = n := by
    rw [IntKind.wrap_i64, IntKind.wrap_i64]
    omega
  have hcall : (callFunc 148 #[.int .i64 (IntKind.i64.wrap (IntKind.i64.wrap 0 + (n : Int)))]).run Tryz.prog w.drew = .ok (.value (.slice (some ⟨w.drew.heap.size, 0, none⟩) n cs.size)) (w.drew.drew.drew.alloc (.cells cs 5)) := by
    rw [hw, run_callFunc_extern Tryz.func148 (by kernel_rfl) (by kernel_rfl) (by kernel_rfl) (e := Extern.BytealgMakeNoZero.makeNoZero #[3] #[63]) (by kernel_rfl), hrun]
    rfl
  have hlt : b < w.heap.size := by
    rcases Nat.lt_or_ge b w.heap.size with h' | h'
    · exact h'
    · simp [Array.getElem?_eq_none h'] at hbk
  have c1 : w.drew.cell? ⟨b, 1, none⟩ = some (.slice none 0 0) := by
    have : w.drew.heap[b]? = _ := hbk
    rw [Lib.cell_of_heap this]; rfl
  have c2 : (w.alloc (.cells cs 5)).cell? ⟨b, 1, none⟩ = some (.slice none 0 0) := by
    have : (w.alloc (.cells cs 5)).heap[b]? = _ := (Lib.alloc_old w _ b hlt).trans hbk
    rw [Lib.cell_of_heap this]; rfl
  have f2 : (w.alloc (.cells cs 5)).frozen? ⟨b, 1, none⟩ = false :=
    Lib.frozen_of_heap ((Lib.alloc_old w _ b hlt).trans hbk) 1
  have hcopy : ∀ W : World, (Builtin.copy_ #[63, 63] 3 #[.slice (some ⟨w.heap.size, 0, none⟩) 0 cs.size, .slice none 0 0]).run Tryz.prog W = .ok (goInt 0) W :=
    fun W => run_copy_none W 63 63 3 5 _ _ 0 cs.size 0 0 Tryz.underlying63 (by kernel_rfl) rfl
  clear hw
  go_enter Tryz.func133, Tryz.ntmps133
  go_wp2_with (fail)
  have hfin := Lib.grown_fresh (T := 65) (e := 5) (cs := cs) hB hbk hBw (hmax (by unfold maxLen; omega)) (by decide)
  rw [World.setCell_alloc_past _ _ _ _ hlt] at hfin
  go_region
  all_goals (go_wp2; go_end0; exact ⟨rfl, hfin⟩)

set_option maxHeartbeats 2000000 in
set_option maxRecDepth 100000 in
theorem Grow_fresh (B b n : Nat) (w : World) (hB : B ≤ b) (hbk : w.heap[b]? = some (.cells #[.pointer none, .slice none 0 0] 65 (0, 0))) (hBw : B ≤ w.heap.size) (hn : n ≤ 281474976710656) :
    Calls Tryz.prog 103 #[.pointer (some ⟨b, 0, none⟩), .int .i64 n] w fun e w' => e = .returned (.tuple #[]) ∧ (Lib.BuilderAt 65 5 B b (.pointer (some ⟨b, 0, none⟩)) [] w' ∧ Below B w w') := by
  have hbk1 : (w.setCell ⟨b, 0, none⟩ (.pointer (some ⟨b, 0, none⟩))).heap[b]? = some (.cells #[.pointer (some ⟨b, 0, none⟩), .slice none 0 0] 65 (0, 0)) := by
    simp [World.setCell, Array.getElem?_modify, hbk]
  have c1 : (w.setCell ⟨b, 0, none⟩ (.pointer (some ⟨b, 0, none⟩))).cell? ⟨b, 1, none⟩ = some (.slice none 0 0) := by rw [Lib.cell_of_heap hbk1]; rfl
  have hb1 : Below B w (w.setCell ⟨b, 0, none⟩ (.pointer (some ⟨b, 0, none⟩))) := (Below.refl B w).setCell (p := ⟨b, 0, none⟩) hB _
  go_enter Tryz.func103, Tryz.ntmps103
  have hU : Lib.BuilderAt 65 5 B b (.pointer (some ⟨b, 0, none⟩)) [] (w.setCell ⟨b, 0, none⟩ (.pointer (some ⟨b, 0, none⟩))) := ⟨hB, .slice none 0 0, hbk1, World.ownsRow_nil _ _ _ _, by simp [Value.ownBlock]⟩
  have c1' : (w.setCell ⟨b, 0, none⟩ (.pointer (some ⟨b, 0, none⟩))).drew.cell? ⟨b, 1, none⟩ = some (.slice none 0 0) := c1
  go_wp2_with (go_at_call 91; refine (copyCheck_fresh b w (by rw [Lib.cell_of_heap hbk]; rfl) (by simp [World.shape?, hbk]) (Lib.frozen_of_heap hbk 0)).mono ?_; rintro e w' ⟨rfl, rfl⟩)
  go_region
  all_goals go_wp2_with (go_at_call 133; refine (grow_fresh B b n (w.setCell ⟨b, 0, none⟩ (.pointer (some ⟨b, 0, none⟩))).drew hB hbk1 (by simpa [World.setCell, World.drew, -World.drew_eq] using hBw) hn).mono ?_; rintro e w' ⟨rfl, h1, h2⟩)
  all_goals first
    | (go_end0; exact ⟨rfl, h1, hb1.drew.trans h2⟩)
    | (go_end0; exact ⟨rfl, hU.drew, hb1.drew⟩)
end Go.Proofs.YtjajoiahgfafgaaGreatDoor
end

/- strings.Join: texts one behind the other, a separator between them. -/
section
namespace Go.Proofs.YtjajoiahgfafgaaGreatDoor
open Go.RowKit

theorem add_zero' (a : Addr) : a.add 0 = a := by simp [Addr.add]


end Go.Proofs.YtjajoiahgfafgaaGreatDoor
end

/- name.Within, Join. -/
section
namespace Go.Proofs.YtjajoiahgfafgaaGreatDoor
open Go.RowKit Plain


theorem Count_any (s : List UInt8) (w : World) :
    Calls Tryz.prog 92 #[.string ⟨s.toArray⟩, .string ⟨#[47]⟩] w fun e w' => e = .returned (.int .i64 (s.count 47 : Nat)) ∧ w' = w := Tryz.strings_Count_one ⟨s.toArray⟩ 47 w
def joinOK (l : List (List UInt8)) : Bool := pathOK (joinS l) && (joinS l).count 47 == l.length - 1 && decide (1 ≤ l.length)
end Go.Proofs.YtjajoiahgfafgaaGreatDoor
end

/- name.Order. -/
section
namespace Go.Proofs.YtjajoiahgfafgaaGreatDoor
open Go.RowKit Plain

theorem bl_lt : ∀ (a b : List UInt8), Op.bytesLess a b = decide (a < b)
  | [], [] => rfl
  | [], _ :: _ => by simp [Op.bytesLess]
  | _ :: _, [] => rfl
  | x :: a, y :: b => by
    show (decide (x < y) || (x == y && Op.bytesLess a b)) = _
    rw [bl_lt a b, Bool.eq_iff_iff]
    simp only [Bool.or_eq_true, Bool.and_eq_true, decide_eq_true_eq, beq_iff_eq, List.cons_lt_cons_iff]

def cmpM (a b : List UInt8) : Int := if a < b then -1 else if b < a then 1 else 0
theorem isNaN_any (x : List UInt8) (w : World) : Calls Tryz.prog 126 #[.string ⟨x.toArray⟩] w (Ret w (.bool false)) := by
  go_enter Tryz.func126, Tryz.ntmps126
  go_wp2_with (fail)
  go_ret
  exact ⟨by simp, Below.refl _ _⟩
theorem Compare_any (x y : List UInt8) (w : World) : Calls Tryz.prog 97 #[.string ⟨x.toArray⟩, .string ⟨y.toArray⟩] w (Ret w (.int .i64 (cmpM x y))) := by
  have HN := Lib.hid (fun z W => isNaN_any z W)
  by_cases h1 : x < y
  · have hc : cmpM x y = -1 := by unfold cmpM; rw [if_pos h1]
    have hb : Op.bytesLess x y = true := by rw [bl_lt]; exact decide_eq_true h1
    rw [hc]
    clear h1 hc
    go_enter Tryz.func97, Tryz.ntmps97
    go_wp2_with (fail)
    refine (HN.out x _).mono ?_
    rintro e w1 ⟨rfl, hw1⟩
    go_wp2_with (fail)
    refine (HN.out y _).mono ?_
    rintro e w2 ⟨rfl, hw2⟩
    go_wp2_with (fail)
    go_ret
    exact ⟨rfl, hw1.trans (hw2.mono hw1.size)⟩
  · have hb : Op.bytesLess x y = false := by rw [bl_lt]; exact decide_eq_false h1
    by_cases h2 : y < x
    · have hc : cmpM x y = 1 := by unfold cmpM; rw [if_neg h1, if_pos h2]
      have hb2 : (x == y) = false := by simp; rintro rfl; exact h1 h2
      rw [hc]
      clear h1 h2 hc
      go_enter Tryz.func97, Tryz.ntmps97
      go_wp2_with (fail)
      refine (HN.out x _).mono ?_
      rintro e w1 ⟨rfl, hw1⟩
      go_wp2_with (fail)
      refine (HN.out y _).mono ?_
      rintro e w2 ⟨rfl, hw2⟩
      go_wp2_with (fail)
      go_ret
      exact ⟨rfl, hw1.trans (hw2.mono hw1.size)⟩
    · have hc : cmpM x y = 0 := by unfold cmpM; rw [if_neg h1, if_neg h2]
      have hb2 : (x == y) = true := by simp; exact eq_of_not_lt h1 h2
      rw [hc]
      clear h1 h2 hc
      go_enter Tryz.func97, Tryz.ntmps97
      go_wp2_with (fail)
      refine (HN.out x _).mono ?_
      rintro e w1 ⟨rfl, hw1⟩
      go_wp2_with (fail)
      refine (HN.out y _).mono ?_
      rintro e w2 ⟨rfl, hw2⟩
      go_wp2_with (fail)
      go_ret
      exact ⟨rfl, hw1.trans (hw2.mono hw1.size)⟩

theorem sCut_hit (p r : List UInt8) (w : World) (hp : 47 ∉ p) (hs : (p ++ 47 :: r).length ≤ 9223372036854775807) :
    Calls Tryz.prog 125 #[.string ⟨(p ++ 47 :: r).toArray⟩, .string ⟨#[47]⟩] w (Ret w (.tuple #[.string ⟨p.toArray⟩, .string ⟨r.toArray⟩, .bool true])) := by
  have h := Tryz.stringslite_Index_one ⟨(p ++ 47 :: r).toArray⟩ 47 w
  rw [show (ByteArray.mk (p ++ 47 :: r).toArray).data.toList = p ++ 47 :: r from rfl, ib_first p r hp] at h
  have HI := Lib.hid h
  have hd : (p ++ 47 :: r).drop (p.length + 1) = r := by rw [← List.drop_drop, List.drop_left' rfl]; rfl
  have hd2 : r.take ((p ++ 47 :: r).length - (p.length + 1)) = r := List.take_of_length_le (by simp; omega)
  have ht : (p ++ 47 :: r).take p.length = p := by simp
  have hpl : p.length + 1 ≤ (p ++ 47 :: r).length := by simp
  clear h
  generalize p ++ 47 :: r = s at *
  go_enter Tryz.func125, Tryz.ntmps125
  go_wp2_with (fail)
  refine HI.out.mono ?_
  rintro e w1 ⟨rfl, rfl⟩
  go_wp2_with (fail)
  have e1 : IntKind.i64.wrap ((p.length : Int) + 1) = (p.length : Int) + 1 := IntWalk.i64_in _ (by omega)
  have e2 : ((p.length : Int) + 1).toNat = p.length + 1 := by omega
  have e3 : (0 : Int) ≤ (p.length : Int) + 1 := by omega
  refine wp_region_below (by kernel_rfl) (by kernel_rfl) ?_
  repeat (go_big_quiet_step (fail))
  refine wpQuiet_nil ?_
  intro W2 hW2
  clear e1 e2 e3
  go_wp2_with (fail)
  go_ret3
  exact ⟨rfl, hW2⟩
theorem sCut_miss (s : List UInt8) (w : World) (hp : 47 ∉ s) (hs : s.length ≤ 9223372036854775807) :
    Calls Tryz.prog 125 #[.string ⟨s.toArray⟩, .string ⟨#[47]⟩] w (Ret w (.tuple #[.string ⟨s.toArray⟩, .string ⟨#[]⟩, .bool false])) := by
  have h := Tryz.stringslite_Index_one ⟨s.toArray⟩ 47 w
  rw [show (ByteArray.mk s.toArray).data.toList = s from rfl, ib_none hp] at h
  have HI := Lib.hid h
  clear h
  go_enter Tryz.func125, Tryz.ntmps125
  go_wp2_with (fail)
  refine HI.out.mono ?_
  rintro e w1 ⟨rfl, rfl⟩
  go_wp2_with (fail)
  go_ret3
  exact ⟨rfl, Below.refl _ _⟩
theorem Cut_hit (p r : List UInt8) (w : World) (hp : 47 ∉ p) (hs : (p ++ 47 :: r).length ≤ 9223372036854775807) :
    Calls Tryz.prog 96 #[.string ⟨(p ++ 47 :: r).toArray⟩, .string ⟨#[47]⟩] w (Ret w (.tuple #[.string ⟨p.toArray⟩, .string ⟨r.toArray⟩, .bool true])) := by
  have HC := Lib.hid (sCut_hit p r w hp hs)
  clear hs
  generalize p ++ 47 :: r = s at *
  go_enter Tryz.func96, Tryz.ntmps96
  go_wp2_with (fail)
  refine HC.out.mono ?_
  rintro e w1 ⟨rfl, hw1⟩
  go_wp2_with (fail)
  go_ret3
  exact ⟨rfl, hw1⟩
theorem Cut_miss (s : List UInt8) (w : World) (hp : 47 ∉ s) (hs : s.length ≤ 9223372036854775807) :
    Calls Tryz.prog 96 #[.string ⟨s.toArray⟩, .string ⟨#[47]⟩] w (Ret w (.tuple #[.string ⟨s.toArray⟩, .string ⟨#[]⟩, .bool false])) := by
  have HC := Lib.hid (sCut_miss s w hp hs)
  clear hs
  go_enter Tryz.func96, Tryz.ntmps96
  go_wp2_with (fail)
  refine HC.out.mono ?_
  rintro e w1 ⟨rfl, hw1⟩
  go_wp2_with (fail)
  go_ret3
  exact ⟨rfl, hw1⟩

theorem cmp_cases (x y : List UInt8) : (x < y ∧ cmpM x y = -1) ∨ (¬ x < y ∧ y < x ∧ cmpM x y = 1) ∨ (x = y ∧ cmpM x y = 0) := by
  unfold cmpM
  by_cases h1 : x < y
  · exact .inl ⟨h1, if_pos h1⟩
  · by_cases h2 : y < x
    · exact .inr (.inl ⟨h1, h2, by rw [if_neg h1, if_pos h2]⟩)
    · exact .inr (.inr ⟨eq_of_not_lt h1 h2, by rw [if_neg h1, if_neg h2]⟩)
theorem orderP_lt {x y : List UInt8} (xs ys : List (List UInt8)) (h : x < y) : orderP (x :: xs) (y :: ys) = -1 := by unfold orderP; rw [if_pos h]
theorem orderP_gt {x y : List UInt8} (xs ys : List (List UInt8)) (h1 : ¬ x < y) (h : y < x) : orderP (x :: xs) (y :: ys) = 1 := by unfold orderP; rw [if_neg h1, if_pos h]
theorem orderP_eq (x : List UInt8) (xs ys : List (List UInt8)) : orderP (x :: xs) (x :: ys) = orderP xs ys := by
  show (if x < x then (-1 : Int) else if x < x then 1 else orderP xs ys) = _
  rw [if_neg (lt_irrefl' x), if_neg (lt_irrefl' x)]
theorem orderP_nil {l : List (List UInt8)} (h : l ≠ []) : orderP [] l = -1 := by cases l; exact absurd rfl h; rfl
theorem orderP_nil' {l : List (List UInt8)} (h : l ≠ []) : orderP l [] = 1 := by cases l; exact absurd rfl h; rfl

set_option maxHeartbeats 4000000 in
theorem Order_any (a b : List UInt8) (w : World) (ha : a.length ≤ 9223372036854775807) (hb : b.length ≤ 9223372036854775807) :
    Calls Tryz.prog 73 #[.string ⟨a.toArray⟩, .string ⟨b.toArray⟩] w (Ret w (.int .i64 (orderM a b))) := by
  go_enter Tryz.func73, Tryz.ntmps73
  go_wp2_with (fail)
  go_loopw [0, 1] (fun t0 t1 W => ∃ x y : List UInt8, t0 = .string ⟨x.toArray⟩ ∧ t1 = .string ⟨y.toArray⟩ ∧ x.length ≤ 9223372036854775807 ∧ y.length ≤ 9223372036854775807 ∧ Hid (orderM a b = orderM x y) ∧ Hid (Below w.heap.size w W)) (fun t0 _ _ => match t0 with | .string s => s.size | _ => 0)
  case atStart => exact ⟨a, b, rfl, rfl, ha, hb, Lib.hid rfl, Lib.hid (Below.refl _ _)⟩
  case round =>
    obtain ⟨x, y, rfl, rfl, hx, hy, HO, HB⟩ := hrel
    cases hxy : x == y with
    | true =>
      have HE := Lib.hid (show orderM x y = 0 by rw [beq_iff_eq] at hxy; rw [hxy]; exact orderP_self _)
      go_wp2_with (fail)
      go_ret
      exact ⟨by rw [HO.out, HE.out]; rfl, HB.out⟩
    | false =>
      have HNE := Lib.hid (show x ≠ y by simpa using hxy)
      by_cases h1 : 47 ∈ x
      · by_cases h2 : 47 ∈ y
        · obtain ⟨p, r, rfl, hp⟩ := first_c x h1
          have hpx := parts_first p r hp
          have HCX := Lib.hid (fun W => Cut_hit p r W hp hx)
          obtain ⟨q, s, rfl, hq⟩ := first_c y h2
          have hpy := parts_first q s hq
          have HCY := Lib.hid (fun W => Cut_hit q s W hq hy)
          have hx2 : p.length + 1 + r.length ≤ 9223372036854775807 := by simp at hx; omega
          have hy2 : q.length + 1 + s.length ≤ 9223372036854775807 := by simp at hy; omega
          have hor : orderM (p ++ 47 :: r) (q ++ 47 :: s) = orderP (p :: (parts r)) (q :: (parts s)) := by unfold orderM; rw [hpx, hpy]
          have hC := fun W => Compare_any p q W
          rcases cmp_cases p q with ⟨c1, cv⟩ | ⟨c1, c2, cv⟩ | ⟨c1, cv⟩
          · have HR := Lib.hid (hor.trans (orderP_lt _ _ c1))
            rw [cv] at hC
            have HC := Lib.hid hC
            clear hor hpx hpy cv h1 h2 hp hq c1 hC
            go_wp2_with (fail)
            refine (HCX.out wr).mono ?_
            rintro e w1 ⟨rfl, hw1⟩
            have hb1 := HB.out.trans (hw1.mono HB.out.size)
            clear hw1
            go_wp2_with (fail)
            refine (HCY.out w1).mono ?_
            rintro e w2 ⟨rfl, hw2⟩
            have hb2 := hb1.trans (hw2.mono hb1.size)
            clear hw2 hb1
            go_wp2_with (fail)
            refine (HC.out w2).mono ?_
            rintro e w3 ⟨rfl, hw3⟩
            have HB3 := Lib.hid (hb2.trans (hw3.mono hb2.size))
            clear hw3 hb2
            go_wp2_with (fail)
            go_ret
            exact ⟨by rw [HO.out, HR.out]; rfl, HB3.out⟩
          · have HR := Lib.hid (hor.trans (orderP_gt _ _ c1 c2))
            rw [cv] at hC
            have HC := Lib.hid hC
            clear hor hpx hpy cv h1 h2 hp hq c1 c2 hC
            go_wp2_with (fail)
            refine (HCX.out wr).mono ?_
            rintro e w1 ⟨rfl, hw1⟩
            have hb1 := HB.out.trans (hw1.mono HB.out.size)
            clear hw1
            go_wp2_with (fail)
            refine (HCY.out w1).mono ?_
            rintro e w2 ⟨rfl, hw2⟩
            have hb2 := hb1.trans (hw2.mono hb1.size)
            clear hw2 hb1
            go_wp2_with (fail)
            refine (HC.out w2).mono ?_
            rintro e w3 ⟨rfl, hw3⟩
            have HB3 := Lib.hid (hb2.trans (hw3.mono hb2.size))
            clear hw3 hb2
            go_wp2_with (fail)
            go_ret
            exact ⟨by rw [HO.out, HR.out]; rfl, HB3.out⟩
          · have HR := Lib.hid (hor.trans (show orderP (p :: parts r) (q :: parts s) = orderM r s by rw [c1]; exact orderP_eq _ _ _))
            rw [cv] at hC
            have HC := Lib.hid hC
            clear hor hpx hpy cv h1 h2 hp hq c1 hC
            go_wp2_with (fail)
            refine (HCX.out wr).mono ?_
            rintro e w1 ⟨rfl, hw1⟩
            have hb1 := HB.out.trans (hw1.mono HB.out.size)
            clear hw1
            go_wp2_with (fail)
            refine (HCY.out w1).mono ?_
            rintro e w2 ⟨rfl, hw2⟩
            have hb2 := hb1.trans (hw2.mono hb1.size)
            clear hw2 hb1
            go_wp2_with (fail)
            refine (HC.out w2).mono ?_
            rintro e w3 ⟨rfl, hw3⟩
            have HB3 := Lib.hid (hb2.trans (hw3.mono hb2.size))
            clear hw3 hb2
            go_wp2_with (fail)
            go_roundw
            case rel => exact ⟨r, s, rfl, rfl, by omega, by omega, Lib.hid (by rw [HO.out, HR.out]), HB3⟩
            case measure => simp [ByteArray.size]; omega

        · obtain ⟨p, r, rfl, hp⟩ := first_c x h1
          have hpx := parts_first p r hp
          have HCX := Lib.hid (fun W => Cut_hit p r W hp hx)
          have hpy := parts_none y h2
          have HCY := Lib.hid (fun W => Cut_miss y W h2 hy)
          have hx2 : p.length + 1 + r.length ≤ 9223372036854775807 := by simp at hx; omega
          have hor : orderM (p ++ 47 :: r) y = orderP (p :: (parts r)) (y :: []) := by unfold orderM; rw [hpx, hpy]
          have hC := fun W => Compare_any p y W
          rcases cmp_cases p y with ⟨c1, cv⟩ | ⟨c1, c2, cv⟩ | ⟨c1, cv⟩
          · have HR := Lib.hid (hor.trans (orderP_lt _ _ c1))
            rw [cv] at hC
            have HC := Lib.hid hC
            clear hor hpx hpy cv h1 h2 hp c1 hC
            go_wp2_with (fail)
            refine (HCX.out wr).mono ?_
            rintro e w1 ⟨rfl, hw1⟩
            have hb1 := HB.out.trans (hw1.mono HB.out.size)
            clear hw1
            go_wp2_with (fail)
            refine (HCY.out w1).mono ?_
            rintro e w2 ⟨rfl, hw2⟩
            have hb2 := hb1.trans (hw2.mono hb1.size)
            clear hw2 hb1
            go_wp2_with (fail)
            refine (HC.out w2).mono ?_
            rintro e w3 ⟨rfl, hw3⟩
            have HB3 := Lib.hid (hb2.trans (hw3.mono hb2.size))
            clear hw3 hb2
            go_wp2_with (fail)
            go_ret
            exact ⟨by rw [HO.out, HR.out]; rfl, HB3.out⟩
          · have HR := Lib.hid (hor.trans (orderP_gt _ _ c1 c2))
            rw [cv] at hC
            have HC := Lib.hid hC
            clear hor hpx hpy cv h1 h2 hp c1 c2 hC
            go_wp2_with (fail)
            refine (HCX.out wr).mono ?_
            rintro e w1 ⟨rfl, hw1⟩
            have hb1 := HB.out.trans (hw1.mono HB.out.size)
            clear hw1
            go_wp2_with (fail)
            refine (HCY.out w1).mono ?_
            rintro e w2 ⟨rfl, hw2⟩
            have hb2 := hb1.trans (hw2.mono hb1.size)
            clear hw2 hb1
            go_wp2_with (fail)
            refine (HC.out w2).mono ?_
            rintro e w3 ⟨rfl, hw3⟩
            have HB3 := Lib.hid (hb2.trans (hw3.mono hb2.size))
            clear hw3 hb2
            go_wp2_with (fail)
            go_ret
            exact ⟨by rw [HO.out, HR.out]; rfl, HB3.out⟩
          · have HR := Lib.hid (hor.trans (show orderP (p :: parts r) (y :: []) = 1 by rw [c1, orderP_eq]; exact orderP_nil' (parts_ne r)))
            rw [cv] at hC
            have HC := Lib.hid hC
            clear hor hpx hpy cv h1 h2 hp c1 hC
            go_wp2_with (fail)
            refine (HCX.out wr).mono ?_
            rintro e w1 ⟨rfl, hw1⟩
            have hb1 := HB.out.trans (hw1.mono HB.out.size)
            clear hw1
            go_wp2_with (fail)
            refine (HCY.out w1).mono ?_
            rintro e w2 ⟨rfl, hw2⟩
            have hb2 := hb1.trans (hw2.mono hb1.size)
            clear hw2 hb1
            go_wp2_with (fail)
            refine (HC.out w2).mono ?_
            rintro e w3 ⟨rfl, hw3⟩
            have HB3 := Lib.hid (hb2.trans (hw3.mono hb2.size))
            clear hw3 hb2
            go_wp2_with (fail)
            go_ret
            exact ⟨by rw [HO.out, HR.out]; rfl, HB3.out⟩

      · by_cases h2 : 47 ∈ y
        · have hpx := parts_none x h1
          have HCX := Lib.hid (fun W => Cut_miss x W h1 hx)
          obtain ⟨q, s, rfl, hq⟩ := first_c y h2
          have hpy := parts_first q s hq
          have HCY := Lib.hid (fun W => Cut_hit q s W hq hy)
          have hy2 : q.length + 1 + s.length ≤ 9223372036854775807 := by simp at hy; omega
          have hor : orderM x (q ++ 47 :: s) = orderP (x :: []) (q :: (parts s)) := by unfold orderM; rw [hpx, hpy]
          have hC := fun W => Compare_any x q W
          rcases cmp_cases x q with ⟨c1, cv⟩ | ⟨c1, c2, cv⟩ | ⟨c1, cv⟩
          · have HR := Lib.hid (hor.trans (orderP_lt _ _ c1))
            rw [cv] at hC
            have HC := Lib.hid hC
            clear hor hpx hpy cv h1 h2 hq c1 hC
            go_wp2_with (fail)
            refine (HCX.out wr).mono ?_
            rintro e w1 ⟨rfl, hw1⟩
            have hb1 := HB.out.trans (hw1.mono HB.out.size)
            clear hw1
            go_wp2_with (fail)
            refine (HCY.out w1).mono ?_
            rintro e w2 ⟨rfl, hw2⟩
            have hb2 := hb1.trans (hw2.mono hb1.size)
            clear hw2 hb1
            go_wp2_with (fail)
            refine (HC.out w2).mono ?_
            rintro e w3 ⟨rfl, hw3⟩
            have HB3 := Lib.hid (hb2.trans (hw3.mono hb2.size))
            clear hw3 hb2
            go_wp2_with (fail)
            go_ret
            exact ⟨by rw [HO.out, HR.out]; rfl, HB3.out⟩
          · have HR := Lib.hid (hor.trans (orderP_gt _ _ c1 c2))
            rw [cv] at hC
            have HC := Lib.hid hC
            clear hor hpx hpy cv h1 h2 hq c1 c2 hC
            go_wp2_with (fail)
            refine (HCX.out wr).mono ?_
            rintro e w1 ⟨rfl, hw1⟩
            have hb1 := HB.out.trans (hw1.mono HB.out.size)
            clear hw1
            go_wp2_with (fail)
            refine (HCY.out w1).mono ?_
            rintro e w2 ⟨rfl, hw2⟩
            have hb2 := hb1.trans (hw2.mono hb1.size)
            clear hw2 hb1
            go_wp2_with (fail)
            refine (HC.out w2).mono ?_
            rintro e w3 ⟨rfl, hw3⟩
            have HB3 := Lib.hid (hb2.trans (hw3.mono hb2.size))
            clear hw3 hb2
            go_wp2_with (fail)
            go_ret
            exact ⟨by rw [HO.out, HR.out]; rfl, HB3.out⟩
          · have HR := Lib.hid (hor.trans (show orderP (x :: []) (q :: parts s) = -1 by rw [c1, orderP_eq]; exact orderP_nil (parts_ne s)))
            rw [cv] at hC
            have HC := Lib.hid hC
            clear hor hpx hpy cv h1 h2 hq c1 hC
            go_wp2_with (fail)
            refine (HCX.out wr).mono ?_
            rintro e w1 ⟨rfl, hw1⟩
            have hb1 := HB.out.trans (hw1.mono HB.out.size)
            clear hw1
            go_wp2_with (fail)
            refine (HCY.out w1).mono ?_
            rintro e w2 ⟨rfl, hw2⟩
            have hb2 := hb1.trans (hw2.mono hb1.size)
            clear hw2 hb1
            go_wp2_with (fail)
            refine (HC.out w2).mono ?_
            rintro e w3 ⟨rfl, hw3⟩
            have HB3 := Lib.hid (hb2.trans (hw3.mono hb2.size))
            clear hw3 hb2
            go_wp2_with (fail)
            go_ret
            exact ⟨by rw [HO.out, HR.out]; rfl, HB3.out⟩

        · have hpx := parts_none x h1
          have HCX := Lib.hid (fun W => Cut_miss x W h1 hx)
          have hpy := parts_none y h2
          have HCY := Lib.hid (fun W => Cut_miss y W h2 hy)
          have hor : orderM x y = orderP (x :: []) (y :: []) := by unfold orderM; rw [hpx, hpy]
          have hC := fun W => Compare_any x y W
          rcases cmp_cases x y with ⟨c1, cv⟩ | ⟨c1, c2, cv⟩ | ⟨c1, cv⟩
          · have HR := Lib.hid (hor.trans (orderP_lt _ _ c1))
            rw [cv] at hC
            have HC := Lib.hid hC
            clear hor hpx hpy cv h1 h2 c1 hC
            go_wp2_with (fail)
            refine (HCX.out wr).mono ?_
            rintro e w1 ⟨rfl, hw1⟩
            have hb1 := HB.out.trans (hw1.mono HB.out.size)
            clear hw1
            go_wp2_with (fail)
            refine (HCY.out w1).mono ?_
            rintro e w2 ⟨rfl, hw2⟩
            have hb2 := hb1.trans (hw2.mono hb1.size)
            clear hw2 hb1
            go_wp2_with (fail)
            refine (HC.out w2).mono ?_
            rintro e w3 ⟨rfl, hw3⟩
            have HB3 := Lib.hid (hb2.trans (hw3.mono hb2.size))
            clear hw3 hb2
            go_wp2_with (fail)
            go_ret
            exact ⟨by rw [HO.out, HR.out]; rfl, HB3.out⟩
          · have HR := Lib.hid (hor.trans (orderP_gt _ _ c1 c2))
            rw [cv] at hC
            have HC := Lib.hid hC
            clear hor hpx hpy cv h1 h2 c1 c2 hC
            go_wp2_with (fail)
            refine (HCX.out wr).mono ?_
            rintro e w1 ⟨rfl, hw1⟩
            have hb1 := HB.out.trans (hw1.mono HB.out.size)
            clear hw1
            go_wp2_with (fail)
            refine (HCY.out w1).mono ?_
            rintro e w2 ⟨rfl, hw2⟩
            have hb2 := hb1.trans (hw2.mono hb1.size)
            clear hw2 hb1
            go_wp2_with (fail)
            refine (HC.out w2).mono ?_
            rintro e w3 ⟨rfl, hw3⟩
            have HB3 := Lib.hid (hb2.trans (hw3.mono hb2.size))
            clear hw3 hb2
            go_wp2_with (fail)
            go_ret
            exact ⟨by rw [HO.out, HR.out]; rfl, HB3.out⟩
          · exact absurd c1 HNE.out

end Go.Proofs.YtjajoiahgfafgaaGreatDoor
end

/- The order of a node against a path. -/
section
set_option linter.unusedVariables false
namespace Go.Proofs.YtjajoiahgfafgaaGreatDoor
open Go.RowKit Plain

set_option maxHeartbeats 400000 in
set_option maxRecDepth 100000 in
theorem place1_any (n : Nd) (s : List UInt8) (w : World) (hp : n.path.length ≤ 9223372036854775807) (hs : s.length ≤ 9223372036854775807) :
    Calls Tryz.prog 128 #[.agg (ndV n).toArray, .string ⟨s.toArray⟩] w (Ret w (.int .i64 (orderM n.path s))) := by
  obtain ⟨p, k, d, m⟩ := n
  unfold ndV
  simp only at hp ⊢
  have HO := Lib.hid (fun W => Order_any p s W hp hs)
  go_enter Tryz.func128, Tryz.ntmps128
  go_wp2_with (go_at_call 73; refine (HO.out _).mono ?_; rintro e w1 ⟨rfl, hb⟩)
  go_ret
  exact ⟨rfl, ((Below.refl _ _).alloc (Nat.le_refl _) _).trans (hb.mono (by simp))⟩
end Go.Proofs.YtjajoiahgfafgaaGreatDoor
end

/- Where a binary search over paths in their order comes to. -/
section
set_option linter.unusedVariables false
namespace Go.Proofs.YtjajoiahgfafgaaGreatDoor
namespace Plain
theorem search_end {t : List Nd} {s : List UInt8} {lo : Nat} (hs : Srt t) (h1 : ∀ j, j < lo → orderM (t.getD j default).path s < 0) (h2 : ∀ j, lo ≤ j → j < t.length → 0 ≤ orderM (t.getD j default).path s) :
    findN t s = if lo < t.length ∧ orderM (t.getD lo default).path s = 0 then some (t.getD lo default) else none := by
  by_cases hc : lo < t.length ∧ orderM (t.getD lo default).path s = 0
  · rw [if_pos hc]
    exact findN_at hs hc.1 ((order_zero' _ _).1 hc.2)
  · rw [if_neg hc, findN_none]
    intro j hj e
    have h0 : orderM (t.getD j default).path s = 0 := (order_zero' _ _).2 e
    rcases Nat.lt_trichotomy j lo with q | q | q
    · have := h1 j q
      omega
    · subst q
      exact hc ⟨hj, h0⟩
    · have h3 := hs lo j q hj
      rw [e] at h3
      have := h2 lo (Nat.le_refl _) (by omega)
      omega
/-- a place ahead, and all ahead of it -/
theorem search_less {t : List Nd} {s : List UInt8} {k : Nat} (hs : Srt t) (hk : k < t.length) (h : orderM (t.getD k default).path s < 0) : ∀ j, j < k + 1 → orderM (t.getD j default).path s < 0 := by
  intro j hj
  by_cases e : j = k
  · rw [e]; exact h
  · exact order_trans' _ _ _ (hs j k (by omega) hk) h
/-- a place that is not ahead, and all behind it -/
theorem search_more {t : List Nd} {s : List UInt8} {k : Nat} (hs : Srt t) (h : 0 ≤ orderM (t.getD k default).path s) : ∀ j, k ≤ j → j < t.length → 0 ≤ orderM (t.getD j default).path s := by
  intro j hj hl
  by_cases e : j = k
  · rw [e]; exact h
  · have h3 := hs k j (by omega) hl
    refine Int.not_lt.1 fun q => ?_
    have := order_trans' _ _ _ h3 q
    omega
end Plain
end Go.Proofs.YtjajoiahgfafgaaGreatDoor
end
