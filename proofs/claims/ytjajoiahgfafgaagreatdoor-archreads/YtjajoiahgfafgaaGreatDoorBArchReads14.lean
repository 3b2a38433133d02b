/- hawserlaw09.ArchReads: whatever bytes it is handed, the law answers true: they are read as the document reads them, and what is read is written back as it was. No condition. -/
import Derived.Test.YtjajoiahgfafgaaGreatDoorShelf
import Derived.Test.YtjajoiahgfafgaaGreatDoorBCodeBaseC1
import Derived.Shelf.Vars
import Derived.Test.YtjajoiahgfafgaaGreatDoorBArchReads1
import Derived.Test.YtjajoiahgfafgaaGreatDoorBArchReads2
import Derived.Test.YtjajoiahgfafgaaGreatDoorCards
import Derived.LaidMore
import Derived.Test.YtjajoiahgfafgaaGreatDoorBArchReads13
import Derived.Test.YtjajoiahgfafgaaGreatDoorBArchReads11
set_option linter.unusedSimpArgs false
set_option linter.unusedVariables false

/- A library's variable holds some int. -/
section
namespace Go.Proofs.YtjajoiahgfafgaaGreatDoor
open Go.RowKit
theorem cell_maxLen {W : World} (hS : W.ShapedOpen Tryz.prog) : ∃ m, W.cell? ⟨0, 0, none⟩ = some (.int .i64 m) :=
  cell_of_shapedOpen_int (zero := #[.int .i64 0]) (t := 3) hS (of_decide_eq_true (by kernel_rfl)) (by kernel_rfl) rfl (by kernel_rfl) (by kernel_rfl) Tryz.underlying3
end Go.Proofs.YtjajoiahgfafgaaGreatDoor
end

/- The listed tables, as a call may lean on them. -/
section
namespace Go.Proofs.YtjajoiahgfafgaaGreatDoor
open Go.RowKit

theorem extra196 : Go.Proofs.U8Extra Tryz.prog lays196_ren := {
  n3 := by kernel_rfl
  n4 := by kernel_rfl
  y3 := by kernel_rfl
  y4 := by kernel_rfl
  c5 := by kernel_rfl
  c119 := by kernel_rfl
  c138 := by kernel_rfl }
theorem first_same : Lib.firstData = Rows.laid_unicode_utf8_first := by kernel_rfl
theorem accept_same : Lib.acceptData = Rows.laid_unicode_utf8_acceptRanges := by kernel_rfl
theorem tabs_of_laid {W : World} (h : laidMetH Tryz.prog [("unicode/utf8.acceptRanges", Rows.laid_unicode_utf8_acceptRanges), ("unicode/utf8.first", Rows.laid_unicode_utf8_first)] W) : Tabs W := by
  rw [MakeChecks.laidMetH_plain _ _ _ (by kernel_rfl)] at h
  obtain ⟨ps, hps, _⟩ := h
  exact Go.Proofs.utf8Tabs_of_readsT (Go.Proofs.U8Types.of196 lays196) extra196 (by rw [first_same]; exact Lib.LaidVars_reads hps _ _ (by simp)) (by rw [accept_same]; exact Lib.LaidVars_reads hps _ _ (by simp))
theorem laid_of {W : World} (hL : laidMetH Tryz.prog [("unicode/utf8.acceptRanges", Rows.laid_unicode_utf8_acceptRanges), ("unicode/utf8.first", Rows.laid_unicode_utf8_first)] W) (hS : W.ShapedOpen Tryz.prog) : ∃ m, Laid W m := by
  obtain ⟨m, hm⟩ := cell_maxLen hS
  exact ⟨m, tabs_of_laid hL, hm⟩
end Go.Proofs.YtjajoiahgfafgaaGreatDoor
end

section
set_option linter.unusedVariables false
namespace Go.Proofs.YtjajoiahgfafgaaGreatDoor
open Go.RowKit Plain

namespace Plain
theorem num_small (st : St) : (takeR passNum st).1 < 9223372036854775808 := by
  obtain ⟨s, f⟩ := st
  by_cases hf : f = 0
  · subst hf; exact (step_num s).2
  · rw [takeR_bad hf]; show (0 : Nat) < _; omega
theorem readNs_small : ∀ n st, ∀ x ∈ (readNs n st).1, x.2.ino < 9223372036854775808 ∧ x.2.size < 9223372036854775808 ∧ x.2.time < 9223372036854775808
  | 0, _, x, h => by simp [readNs] at h
  | n + 1, st, x, h => by
    unfold readNs at h
    rcases List.mem_cons.1 h with h | h
    · subst h
      unfold readN
      refine ⟨?_, ?_, ?_⟩
      · exact Int.ofNat_lt.2 (num_small _)
      · exact Int.ofNat_lt.2 (num_small _)
      · exact Int.ofNat_lt.2 (num_small _)
    · exact readNs_small n _ x h
theorem readH_small (p : List UInt8) : (readH p).serial < 9223372036854775808 := num_small _
theorem decode_cases (s : List UInt8) : decodeA s = (zeroA, 90) ∨ ∃ a, decodeA s = (a, 0) ∧ Small a := by
  unfold decodeA
  split
  · exact .inl rfl
  · unfold doneA
    split
    · exact .inl rfl
    · refine .inr ⟨_, rfl, Int.ofNat_lt.2 (readH_small _), ?_⟩
      intro x hx
      unfold arcOf at hx
      obtain ⟨y, hy, rfl⟩ := List.mem_map.1 hx
      exact readNs_small _ _ y hy
end Plain
theorem arc_selfA (a : Arc) : ((a.pair == a.pair) && (a.serial == a.serial) && (a.tree == a.tree) && (a.stamps == a.stamps)) = true := by simp

set_option maxHeartbeats 4000000 in
set_option maxRecDepth 100000 in
theorem ArchReads_any (s : List UInt8) (m : Int) (w : World) (hL : Laid w m) (hs : s.length ≤ 9223372036854775807) :
    Calls Tryz.prog 3 #[.string ⟨s.toArray⟩] w (Ret w (.bool true)) := by
  have HAW := Lib.hid (fun W (h : Below w.heap.size w W) => aawake_any m W (hL.below h))
  have HD := Lib.hid (fun W (h : Below w.heap.size w W) => decode_any s m W (hL.below h) hs)
  have HR := Lib.hid (fun W (h : Below w.heap.size w W) => rdecode_any s W hs)
  have HLA := Lib.hid (fun W (h : Below w.heap.size w W) => hL.below h)
  have HB0 := Lib.hid (Below.refl w.heap.size w)
  clear hL
  rcases decode_cases s with hz | ⟨a, ha, hsm⟩
  · rw [hz] at HD HR
    have HZ0 := Lib.hid (fun W => zero_at W)
    clear hz
    unfold ArcOut zeroA arV at HD HR
    go_enter Tryz.func3, Tryz.ntmps3
    go_wp2_with (fail)
    refine (HAW.out _ HB0.out).mono ?_
    rintro e w1 ⟨rfl, hw1⟩
    have HB1 := Lib.hid (HB0.out.trans (hw1.mono HB0.out.size))
    clear hw1
    go_wp2_with (fail)
    refine (HD.out _ HB1.out).mono ?_
    rintro e w2 ⟨A, c, B, d, rfl, hat, hw2⟩
    have HB2 := Lib.hid (HB1.out.trans (hw2.mono HB1.out.size))
    clear hw2
    obtain ⟨w3, hw3⟩ : ∃ w3, w2.alloc (.cells #[.string ⟨#[]⟩, .int .i64 0, .slice A 0 c, .slice B 0 d] 26) = w3 := ⟨_, rfl⟩
    have HW3 := Lib.hid hw3
    have hb3 := (show Below w2.heap.size w2 w3 by rw [← hw3]; exact (Below.refl _ _).alloc (Nat.le_refl _) _)
    have hr3 := (show w3.heap[w2.heap.size]? = some (.cells #[.string ⟨#[]⟩, .int .i64 0, .slice A 0 c, .slice B 0 d] 26 (0, 0)) by rw [← hw3]; exact heap_alloc_new _ _)
    have HB3 := Lib.hid (HB2.out.trans (hb3.mono HB2.out.size))
    have HAT3 := Lib.hid (hat.below hb3)
    clear hw3 hb3 hat
    go_upto_region 4 with (fail)
    rw [HW3.out]
    go_wp2_with (fail)
    refine (HR.out _ HB3.out).mono ?_
    rintro e w4 ⟨A', c', B', d', rfl, hat, hw4⟩
    have HB4 := Lib.hid (HB3.out.trans (hw4.mono HB3.out.size))
    have hr4 := (hw4.block _ (lt_of_heap hr3)).trans hr3
    have hat4 := HAT3.out.below hw4
    clear hw4 hr3 HAT3
    obtain ⟨w5, hw5⟩ : ∃ w5, w4.alloc (.cells #[.string ⟨#[]⟩, .int .i64 0, .slice A' 0 c', .slice B' 0 d'] 26) = w5 := ⟨_, rfl⟩
    have HW5 := Lib.hid hw5
    have hb5 := (show Below w4.heap.size w4 w5 by rw [← hw5]; exact (Below.refl _ _).alloc (Nat.le_refl _) _)
    have hr5 := (show w5.heap[w4.heap.size]? = some (.cells #[.string ⟨#[]⟩, .int .i64 0, .slice A' 0 c', .slice B' 0 d'] 26 (0, 0)) by rw [← hw5]; exact heap_alloc_new _ _)
    have hr45 := (hb5.block _ (lt_of_heap hr4)).trans hr4
    have HB5 := Lib.hid (HB4.out.trans (hb5.mono HB4.out.size))
    have HSM := Lib.hid (arc_selfA zeroA ▸ rarch_any zeroA zeroA A c B d A' c' B' d' w5 (hat4.below hb5) (hat.below hb5))
    unfold arV zeroA at HSM
    simp only [List.length_nil] at HSM
    have p0 := cell_of_row w5 _ 0 _ _ _ hr45
    have p1 := cell_of_row w5 _ 1 _ _ _ hr45
    have p2 := cell_of_row w5 _ 2 _ _ _ hr45
    have p3 := cell_of_row w5 _ 3 _ _ _ hr45
    have q0 := cell_of_row w5 _ 0 _ _ _ hr5
    have q1 := cell_of_row w5 _ 1 _ _ _ hr5
    have q2 := cell_of_row w5 _ 2 _ _ _ hr5
    have q3 := cell_of_row w5 _ 3 _ _ _ hr5
    clear hw5 hb5 hr5 hr4 hr45 hat hat4
    go_upto_region 5 with (fail)
    rw [HW5.out]
    go_wp2_with (fail)
    refine HSM.out.mono ?_
    rintro e w6 ⟨rfl, hw6⟩
    have HB6 := Lib.hid (HB5.out.trans (hw6.mono HB5.out.size))
    clear hw6
    go_wp2_with (fail)
    go_ret
    exact ⟨rfl, HB6.out⟩
  · rw [ha] at HD HR
    obtain ⟨hck, hsr⟩ := decode_wrote ha
    have HENC := Lib.hid (fun A c B d W (h : Below w.heap.size w W) (hat : ArAt a A c B d W) => (show encodeA a = (s, 0) by unfold encodeA; rw [hck, ← hsr]; rfl) ▸ encode_any a A c B d m W (HLA.out W h) hat hsm)
    have HSAME := Lib.hid (fun A c B d A' c' B' d' W (h1 : ArAt a A c B d W) (h2 : ArAt a A' c' B' d' W) => arc_selfA a ▸ rarch_any a a A c B d A' c' B' d' W h1 h2)
    clear ha hck hsr hsm
    have HAX : Hid (∀ W : World, ∀ (A : Option Addr) (c : Nat) (B : Option Addr) (d : Nat), ArAt a A c B d W → ∀ W', Below W.heap.size W W' → ArAt a A c B d W') := Lib.hid (fun W A c B d h W' hb => h.below hb)
    unfold ArcOut at HD HR
    generalize hP : ArAt a = P at *
    clear hP
    obtain ⟨pair, serial, tree, stamps⟩ := a
    unfold arV at HD HR HENC HSAME
    simp only at HD HR HENC HSAME
    generalize tree.length = tn at *
    generalize stamps.length = sn at *
    go_enter Tryz.func3, Tryz.ntmps3
    go_wp2_with (fail)
    refine (HAW.out _ HB0.out).mono ?_
    rintro e w1 ⟨rfl, hw1⟩
    have HB1 := Lib.hid (HB0.out.trans (hw1.mono HB0.out.size))
    clear hw1
    go_wp2_with (fail)
    refine (HD.out _ HB1.out).mono ?_
    rintro e w2 ⟨A, c, B, d, rfl, hat, hw2⟩
    have HB2 := Lib.hid (HB1.out.trans (hw2.mono HB1.out.size))
    clear hw2
    obtain ⟨w3, hw3⟩ : ∃ w3, w2.alloc (.cells #[.string ⟨pair.toArray⟩, .int .i64 serial, .slice A tn c, .slice B sn d] 26) = w3 := ⟨_, rfl⟩
    have HW3 := Lib.hid hw3
    have hb3 := (show Below w2.heap.size w2 w3 by rw [← hw3]; exact (Below.refl _ _).alloc (Nat.le_refl _) _)
    have hr3 := (show w3.heap[w2.heap.size]? = some (.cells #[.string ⟨pair.toArray⟩, .int .i64 serial, .slice A tn c, .slice B sn d] 26 (0, 0)) by rw [← hw3]; exact heap_alloc_new _ _)
    have HB3 := Lib.hid (HB2.out.trans (hb3.mono HB2.out.size))
    have HAT3 := Lib.hid (HAX.out _ _ _ _ _ hat _ hb3)
    clear hw3 hb3 hat
    go_upto_region 4 with (fail)
    rw [HW3.out]
    go_wp2_with (fail)
    refine (HR.out _ HB3.out).mono ?_
    rintro e w4 ⟨A', c', B', d', rfl, hat, hw4⟩
    have HB4 := Lib.hid (HB3.out.trans (hw4.mono HB3.out.size))
    have hr4 := (hw4.block _ (lt_of_heap hr3)).trans hr3
    have hat4 := HAX.out _ _ _ _ _ HAT3.out _ hw4
    clear hw4 hr3 HAT3
    obtain ⟨w5, hw5⟩ : ∃ w5, w4.alloc (.cells #[.string ⟨pair.toArray⟩, .int .i64 serial, .slice A' tn c', .slice B' sn d'] 26) = w5 := ⟨_, rfl⟩
    have HW5 := Lib.hid hw5
    have hb5 := (show Below w4.heap.size w4 w5 by rw [← hw5]; exact (Below.refl _ _).alloc (Nat.le_refl _) _)
    have hr5 := (show w5.heap[w4.heap.size]? = some (.cells #[.string ⟨pair.toArray⟩, .int .i64 serial, .slice A' tn c', .slice B' sn d'] 26 (0, 0)) by rw [← hw5]; exact heap_alloc_new _ _)
    have hr45 := (hb5.block _ (lt_of_heap hr4)).trans hr4
    have HB5 := Lib.hid (HB4.out.trans (hb5.mono HB4.out.size))
    have HAT5 := Lib.hid (HAX.out _ _ _ _ _ hat4 _ hb5)
    have HSM := Lib.hid (HSAME.out _ _ _ _ _ _ _ _ w5 HAT5.out (HAX.out _ _ _ _ _ hat _ hb5))
    have HR45 := Lib.hid hr45
    have p0 := cell_of_row w5 _ 0 _ _ _ hr45
    have p1 := cell_of_row w5 _ 1 _ _ _ hr45
    have p2 := cell_of_row w5 _ 2 _ _ _ hr45
    have p3 := cell_of_row w5 _ 3 _ _ _ hr45
    have q0 := cell_of_row w5 _ 0 _ _ _ hr5
    have q1 := cell_of_row w5 _ 1 _ _ _ hr5
    have q2 := cell_of_row w5 _ 2 _ _ _ hr5
    have q3 := cell_of_row w5 _ 3 _ _ _ hr5
    clear hw5 hb5 hr5 hr4 hr45 hat hat4
    go_upto_region 5 with (fail)
    rw [HW5.out]
    go_wp2_with (fail)
    refine HSM.out.mono ?_
    rintro e w6 ⟨rfl, hw6⟩
    have HB6 := Lib.hid (HB5.out.trans (hw6.mono HB5.out.size))
    have hr6 := (hw6.block _ (lt_of_heap HR45.out)).trans HR45.out
    have HEN := Lib.hid (HENC.out _ _ _ _ w6 HB6.out (HAX.out _ _ _ _ _ HAT5.out _ hw6))
    clear hw6 p0 p1 p2 p3 q0 q1 q2 q3
    have p0 := cell_of_row w6 _ 0 _ _ _ hr6
    have p1 := cell_of_row w6 _ 1 _ _ _ hr6
    have p2 := cell_of_row w6 _ 2 _ _ _ hr6
    have p3 := cell_of_row w6 _ 3 _ _ _ hr6
    clear hr6
    go_wp2_with (fail)
    refine HEN.out.mono ?_
    rintro e w7 ⟨rfl, hw7⟩
    have HB7 := Lib.hid (HB6.out.trans (hw7.mono HB6.out.size))
    clear hw7
    have hee : (s == s) = true := beq_self_eq_true s
    go_wp2_with (fail)
    go_ret
    exact ⟨rfl, HB7.out⟩

open Go.ChangeShapes Go.WideShapes Go.ChangeAt in
set_option maxRecDepth 100000 in
/-- What the walk gives, for every argument. -/
theorem ArchReads_contract (H : Type) (enc : TypeId × Value → H) (W : World) (base : Nat) (args : Array Value) (ds gs : List (DataW H)) (before : List MemPlace)
    (hval : ∀ (j : Nat) t v, Tryz.f3.params[j]? = some t → args[j]? = some v → Value.okWide Tryz.prog W .any base t v)
    (hW : DataW.Whole enc Tryz.prog Tryz.f3.params.toList Rows.archReadsSpec.vars false W args.toList ds gs before) (hL : laidMetH Tryz.prog Rows.archReadsRow.laid W) (hS : W.ShapedOpen Tryz.prog) :
    Calls Tryz.prog 3 args W fun e W' => ∃ v, e = .returned v ∧ Rows.archReadsSpec.post enc Tryz.prog Tryz.f3 false true false false W args v W' := by
  have hW' := hW
  obtain ⟨p, q, hA0, hV, rfl, hfz, hnd⟩ := hW
  have hA : DataW.TrodAll enc Tryz.prog W 0 (fun _ => true) true Tryz.f3.params.toList args.toList ds p := hA0
  rw [Tryz.params3] at hA hval
  obtain ⟨v0, vs0, d0, ds0, p0, q0, hargs, rfl, rfl, h0, r0⟩ := trodAll_cons hA
  obtain ⟨rfl, rfl, rfl⟩ := trodAll_nil r0
  obtain rfl : args = #[v0] := by cases args; simp_all
  obtain ⟨rfl, rfl⟩ := trodVars_none hV
  obtain ⟨x0, rfl, rfl, rfl, k0⟩ := ChangeMaps.open_string Tryz.underlying9 (hval 0 9 v0 rfl rfl) h0
  have k0 : x0.data.toList.length ≤ 9223372036854775807 := by unfold maxLen at k0; simpa using k0
  clear hA0
  obtain ⟨m, hm⟩ := laid_of hL hS
  refine (ArchReads_any x0.data.toList m W hm k0).mono ?_
  exact fun e W' ⟨he, hb⟩ => ⟨_, he, law_post rfl hW' rfl (by kernel_rfl) Tryz.underlying4 (by kernel_rfl) laidOut hb⟩

open Go.ChangeShapes Go.WideShapes Go.ChangeAt in
theorem ArchReads_met (os : Os) : laidMet Tryz.prog Rows.archReadsRow.laid ((laidWorld os).forCall (fun _ _ => 0) ⟨#[], #[.string ⟨#[]⟩], []⟩).memory :=
  laidMet_of_run' 8 (by kernel_rfl) (by kernel_rfl)
open Go.ChangeShapes Go.WideShapes Go.ChangeAt in
theorem ArchReads_reads (os : Os) {H : Type} (enc : TypeId × Value → H) : ∃ places, DataW.whole enc Tryz.prog ((laidWorld os).forCall (fun _ _ => 0) ⟨#[], #[.string ⟨#[]⟩], []⟩).memory Tryz.f3.params.toList Rows.archReadsSpec.vars false #[.string ⟨#[]⟩].toList 8 = some ([.lit (.string [])], [], places) :=
  ⟨[], by kernel_rfl⟩

open Go.ChangeShapes Go.WideShapes Go.ChangeAt in
set_option maxRecDepth 100000 in
theorem ArchReads_lifted (os : Os) (started : os.Started) (H : Type) (enc : TypeId × Value → H) (F : Stop.Interp) :
    ReturnsInHanded {} Tryz.checked os 3 .any ((OpenSpec.ofChange Rows.archReadsSpec).preRow enc Tryz.prog Tryz.f3 Rows.archReadsRow.domain false Rows.archReadsRow.laid) (((OpenSpec.ofChange Rows.archReadsSpec).at F).post enc Tryz.prog Tryz.f3 false true false false) := by
  obtain ⟨places, hx⟩ := ArchReads_reads os enc
  refine returnsInHanded_of_row (C := Tryz.checked) (s := OpenSpec.ofChange Rows.archReadsSpec) own started (by kernel_rfl) Tryz.func3
    (witness_row_at (enc := enc) (C := Tryz.checked) false (laidWorld os) #[.string ⟨#[]⟩] rfl (by kernel_rfl) (by kernel_rfl) (by kernel_rfl)
      (OpenSpec.preRow_of_cond 8 hx (by kernel_rfl) (fun k hk => by cases hk) (by kernel_rfl) (ArchReads_met os))) ?_
  intro W base args ds gs before hval hW _ hcond _ hL hS _
  exact ArchReads_contract H enc W base args ds gs before hval hW hL hS

theorem ArchReads_said : Rows.ArchReadsSaid :=
  OpenClaim.holds_of_cond 3 Tryz.f3 rfl rfl rfl rfl rfl rfl rfl ⟨rfl, rfl, rfl, rfl, rfl⟩ rfl rfl rfl rfl rfl (by kernel_rfl) Tryz.func3 (by kernel_rfl)
    (of_decide_eq_true (by kernel_rfl)) (by unfold Func.isWrapper; first | (rw [if_pos (by decide +kernel)]; kernel_rfl) | (rw [if_neg (by decide +kernel)]; exact ⟨rfl, rfl⟩))
    (fun os started H enc _ F => by rw [OpenClaim.pre_eq_preRow]; exact ArchReads_lifted os started H enc F)

theorem ArchReads_holds : Rows.ArchReadsCardSaid :=
  Claim7.holds_tied_plain_at .later [] _ _ _ _ ArchReads_said (fun _ h => by cases h) (by kernel_rfl) (fun _ h => by cases h) archReads_row_tie rfl ⟨rfl, rfl⟩ (by kernel_rfl) rfl
    (card_plain (f0 := 3) (fn0 := Tryz.f3) (by kernel_rfl) Tryz.func3 (by kernel_rfl) (by kernel_rfl)) (by kernel_rfl)
end Go.Proofs.YtjajoiahgfafgaaGreatDoor
end
