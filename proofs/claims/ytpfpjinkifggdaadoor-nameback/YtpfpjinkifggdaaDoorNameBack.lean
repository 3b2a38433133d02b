/- hawserlaw01.NameBack: a path taken apart and put together is itself. -/
import Derived.Test.YtpfpjinkifggdaaDoorNameAwake
import Derived.Test.YtpfpjinkifggdaaDoorTabs
import Derived.Test.YtpfpjinkifggdaaDoorCard
namespace Go.Proofs.YtpfpjinkifggdaaDoor
open Go.RowKit Plain

theorem split_bad {s : List UInt8} (h : pathOK s = false) : splitM s = [] := by unfold splitM; rw [h]; rfl
theorem split_ok {s : List UInt8} (h : pathOK s = true) : splitM s = parts s := by unfold splitM; rw [h]; rfl
theorem parent_bad {s : List UInt8} (h : pathOK s = false) : parentM s = [] := by unfold parentM; rw [h]; rfl
theorem base_bad {s : List UInt8} (h : pathOK s = false) : baseM s = [] := by unfold baseM; rw [h]; rfl
theorem joinOK_parts {s : List UInt8} (h : pathOK s = true) : joinOK (parts s) = true := by
  unfold joinOK
  rw [join_parts, h, parts_length]
  simp
theorem not_within {p q : List UInt8} : withinM p (p ++ 47 :: q) = false := by
  unfold withinM
  have h1 : (p ++ 47 :: q).isEmpty = false := by cases p <;> rfl
  have h2 : (p == p ++ 47 :: q) = false := by
    rw [beq_eq_false_iff_ne]; intro e
    have := congrArg List.length e
    simp at this
  have h3 : (p ++ 47 :: q ++ [47]).isPrefixOf p = false := by
    rw [← Bool.not_eq_true, List.isPrefixOf_iff_prefix]
    intro hp
    have := hp.length_le
    simp at this
    omega
  rw [h1, h2, h3]; simp
theorem is_within {p q : List UInt8} (h : 47 ∉ q) (hs : pathOK (p ++ 47 :: q) = true) : withinM (p ++ 47 :: q) p = true := by
  unfold withinM
  have h3 : (p ++ [47]).isPrefixOf (p ++ 47 :: q) = true := by
    rw [List.isPrefixOf_iff_prefix]; exact ⟨q, by simp⟩
  rw [hs, path_above p q h hs, h3]; simp

set_option maxHeartbeats 4000000 in
set_option maxRecDepth 100000 in
theorem NameBack_any (s : List UInt8) (m : Int) (w : World) (hL : Laid w m) (hs : s.length ≤ 9223372036854775807) :
    Calls Tryd.prog 6 #[.string ⟨s.toArray⟩] w (Ret w (.bool true)) := by
  have HAW := Lib.hid (awake_any m w hL)
  have HL := Lib.hid (fun W (h : Below w.heap.size w W) => hL.below h)
  have hS := fun W (h : Laid W m) => Split_any s m W h
  have hP := fun W (h : Laid W m) => Path_any s W h.tabs
  have hU := fun W (h : Laid W m) => Parent_any s W h.tabs hs
  have hB := fun W (h : Laid W m) => Base_any s W h.tabs hs
  clear hL
  cases hok : pathOK s with
  | false =>
    rw [hok] at hP
    rw [split_bad hok] at hS
    rw [parent_bad hok] at hU
    rw [base_bad hok] at hB
    have HS := Lib.hid hS
    have HP := Lib.hid hP
    have HU := Lib.hid hU
    have HB := Lib.hid hB
    clear hS hP hU hB hok hs
    go_enter Tryd.func6, Tryd.ntmps6
    go_wp2_with (fail)
    refine HAW.out.mono ?_
    rintro e w1 ⟨rfl, hw1⟩
    go_wp2_with (fail)
    refine (HS.out w1 (HL.out w1 hw1)).mono ?_
    rintro e w2 ⟨A, c, rfl, hc, hm, hr, hw2, hA0⟩
    have hB2 := hw1.trans (hw2.mono hw1.size)
    clear hw1 hw2
    go_wp2_with (fail)
    refine (HP.out w2 (HL.out w2 hB2)).mono ?_
    rintro e w3 ⟨rfl, hw3⟩
    have hB3 := hB2.trans (hw3.mono hB2.size)
    clear hw3 hB2
    go_wp2_with (fail)
    refine (HU.out w3 (HL.out w3 hB3)).mono ?_
    rintro e w4 ⟨rfl, hw4⟩
    have hB4 := hB3.trans (hw4.mono hB3.size)
    clear hw4 hB3
    go_wp2_with (fail)
    refine (HB.out w4 (HL.out w4 hB4)).mono ?_
    rintro e w5 ⟨rfl, hw5⟩
    have hB5 := hB4.trans (hw5.mono hB4.size)
    clear hw5 hB4
    go_wp2_with (fail)
    go_ret
    exact ⟨rfl, hB5⟩
  | true =>
    have h400 := pathOK_len hok
    have hJ := fun A c W (hT : Tabs W) hr hlc hc => Join_name A c (parts s) W hT hr hlc hc (by rw [parts_length]; have := List.count_le_length (a := (47 : UInt8)) (l := s); omega) (by rw [join_parts]; omega)
    rw [joinOK_parts hok, join_parts, if_pos rfl] at hJ
    rw [hok] at hP
    rw [split_ok hok] at hS
    have HN := Lib.hid (fun x (hx : x ∈ parts s) => pathOK_mem hok hx)
    have hpl : 1 ≤ (parts s).length := by rw [parts_length]; omega
    have hpl2 : (parts s).length ≤ 401 := by rw [parts_length]; have := List.count_le_length (a := (47 : UInt8)) (l := s); omega
    have HS := Lib.hid hS
    have HP := Lib.hid hP
    have HJ := Lib.hid hJ
    have hlast : (parts s)[(parts s).length - 1]? = some (baseM s) := by
      unfold baseM; rw [if_pos hok]
      rw [← List.getLast?_eq_getElem?, List.getLast?_eq_some_getLast (parts_ne s)]
    have HLAST := Lib.hid hlast
    have HWW := Lib.hid (fun p q W (h : Laid W m) => Within_any p q W h.tabs)
    clear hS hP hJ hlast hs
    by_cases h47 : 47 ∈ s
    · obtain ⟨p, q, rfl, hq⟩ := last_cut h47
      rw [parent_cut p q hq hok] at hU
      have hbq := base_cut p q hq hok
      rw [hbq] at hB HLAST
      have hp0 : p.isEmpty = false := by
        cases p with
        | nil => exact absurd rfl (pathOK_ne (path_above [] q hq hok))
        | cons x r => rfl
      have hw1' := HWW.out (p ++ 47 :: q) p
      rw [is_within hq hok] at hw1'
      have hw2' := HWW.out p (p ++ 47 :: q)
      rw [not_within] at hw2'
      have HW1 := Lib.hid hw1'
      have HW2 := Lib.hid hw2'
      have HU := Lib.hid hU
      have HB := Lib.hid hB
      have b1 : (p ++ 47 :: q == p ++ 47 :: q) = true := by simp
      have hl2 : p.length + 1 + q.length ≤ 400 := by simp at h400; omega
      clear hU hB hw1' hw2' hok h47 hq HWW hbq
      generalize hl : parts (p ++ 47 :: q) = l at *
      have HLL := Lib.hid hl
      clear hl
      go_enter Tryd.func6, Tryd.ntmps6
      go_wp2_with (fail)
      refine HAW.out.mono ?_
      rintro e w1 ⟨rfl, hw1⟩
      go_wp2_with (fail)
      refine (HS.out w1 (HL.out w1 hw1)).mono ?_
      rintro e w2 ⟨A, c, rfl, hc, hm, hr, hw2, hA0⟩
      have hB2 := hw1.trans (hw2.mono hw1.size)
      clear hw1 hw2
      go_wp2_with (fail)
      refine (HP.out w2 (HL.out w2 hB2)).mono ?_
      rintro e w3 ⟨rfl, hw3⟩
      have hB3 := hB2.trans (hw3.mono hB2.size)
      have hr3 := hr.below hw3
      clear hw3 hB2 hr
      go_wp2_with (fail)
      refine (HJ.out A c w3 (HL.out w3 hB3).tabs hr3 hc hm).mono ?_
      rintro e w4 ⟨rfl, hw4⟩
      have hB4 := hB3.trans (hw4.mono hB3.size)
      have hr4 := hr3.below hw4
      clear hw4 hB3 hr3
      go_wp2_with (fail)
      go_loopw [41] (fun t41 W => ∃ k : Nat, k ≤ l.length ∧ t41 = .int .i64 k ∧ Hid (Below w4.heap.size w4 W)) (fun t41 _ => l.length - (intOf t41).toNat)
      case atStart => exact ⟨0, by omega, rfl, Lib.hid (Below.refl _ _)⟩
      case round =>
        obtain ⟨k, hk, rfl, HBB⟩ := hrel
        have hbel := HBB.out
        have i0 : (0 : Int) ≤ k := by omega
        have hBr := hB4.trans (hbel.mono hB4.size)
        by_cases hlt : k < l.length
        · obtain ⟨ad, rfl, cS⟩ := (hr4.below hbel).str_at hlt
          have hn := Name_any l[k] wr (HL.out wr hBr).tabs
          rw [HN.out _ (List.getElem_mem hlt)] at hn
          have HNN := Lib.hid hn
          generalize l[k] = x at *
          have i1 : (k : Int) < l.length := by omega
          clear hbel hn hBr
          go_wp2_with (fail)
          refine HNN.out.mono ?_
          rintro e w5 ⟨rfl, hw5⟩
          have HB5 := Lib.hid (HBB.out.trans (hw5.mono HBB.out.size))
          clear hw5
          go_wp2_with (fail)
          go_roundw
          case rel => exact ⟨k + 1, by omega, by go_num, HB5⟩
          case measure => simp [intOf]; omega
        · obtain rfl : k = l.length := by omega
          obtain ⟨ad, rfl, cS⟩ := (hr4.below hbel).str_at (show l.length - 1 < l.length by omega)
          have hg : l[l.length - 1]'(by omega) = q := by
            have h := HLAST.out
            rw [List.getElem?_eq_getElem (by omega)] at h
            injection h
          rw [hg] at cS
          have e1 : IntKind.i64.wrap ((l.length : Int) - 1) = (l.length : Int) - 1 := IntWalk.i64_in _ (by omega)
          have e2 : ((l.length : Int) - 1).toNat = l.length - 1 := by omega
          have e3 : (0 : Int) ≤ (l.length : Int) - 1 := by omega
          have hcell : ∀ W, Below wr.heap.size wr W → W.cell? (ad.add (l.length - 1)) = some (.string ⟨q.toArray⟩) := fun W hW => (hW.cell (World.block_lt_of_cell? _ _ cS)).trans cS
          have HCE := Lib.hid hcell
          clear hbel hg hcell cS
          go_wp2_with (fail)
          refine (HU.out wr (HL.out wr hBr)).mono ?_
          rintro e w5 ⟨rfl, hw5⟩
          have hB5 := hBr.trans (hw5.mono hBr.size)
          go_wp2_with (fail)
          refine (HB.out w5 (HL.out w5 hB5)).mono ?_
          rintro e w6 ⟨rfl, hw6⟩
          have hB6 := hB5.trans (hw6.mono hB5.size)
          have hc6 := HCE.out w6 (hw5.trans (hw6.mono hw5.size))
          clear hw5 hw6 hB5 hBr
          go_wp2_with (fail)
          refine (HW1.out w6 (HL.out w6 hB6)).mono ?_
          rintro e w7 ⟨rfl, hw7⟩
          have hB7 := hB6.trans (hw7.mono hB6.size)
          clear hw7 hB6
          go_wp2_with (fail)
          refine (HW2.out w7 (HL.out w7 hB7)).mono ?_
          rintro e w8 ⟨rfl, hw8⟩
          have hB8 := hB7.trans (hw8.mono hB7.size)
          clear hw8 hB7
          go_wp2_with (fail)
          go_ret
          exact ⟨rfl, hB8⟩
    · rw [parent_none h47] at hU
      rw [base_none h47 hok] at hB HLAST
      have HU := Lib.hid hU
      have HB := Lib.hid hB
      have b1 : (s == s) = true := by simp
      clear hU hB hok h47 HWW
      generalize hl : parts s = l at *
      have HLL := Lib.hid hl
      clear hl
      go_enter Tryd.func6, Tryd.ntmps6
      go_wp2_with (fail)
      refine HAW.out.mono ?_
      rintro e w1 ⟨rfl, hw1⟩
      go_wp2_with (fail)
      refine (HS.out w1 (HL.out w1 hw1)).mono ?_
      rintro e w2 ⟨A, c, rfl, hc, hm, hr, hw2, hA0⟩
      have hB2 := hw1.trans (hw2.mono hw1.size)
      clear hw1 hw2
      go_wp2_with (fail)
      refine (HP.out w2 (HL.out w2 hB2)).mono ?_
      rintro e w3 ⟨rfl, hw3⟩
      have hB3 := hB2.trans (hw3.mono hB2.size)
      have hr3 := hr.below hw3
      clear hw3 hB2 hr
      go_wp2_with (fail)
      refine (HJ.out A c w3 (HL.out w3 hB3).tabs hr3 hc hm).mono ?_
      rintro e w4 ⟨rfl, hw4⟩
      have hB4 := hB3.trans (hw4.mono hB3.size)
      have hr4 := hr3.below hw4
      clear hw4 hB3 hr3
      go_wp2_with (fail)
      go_loopw [41] (fun t41 W => ∃ k : Nat, k ≤ l.length ∧ t41 = .int .i64 k ∧ Hid (Below w4.heap.size w4 W)) (fun t41 _ => l.length - (intOf t41).toNat)
      case atStart => exact ⟨0, by omega, rfl, Lib.hid (Below.refl _ _)⟩
      case round =>
        obtain ⟨k, hk, rfl, HBB⟩ := hrel
        have hbel := HBB.out
        have i0 : (0 : Int) ≤ k := by omega
        have hBr := hB4.trans (hbel.mono hB4.size)
        by_cases hlt : k < l.length
        · obtain ⟨ad, rfl, cS⟩ := (hr4.below hbel).str_at hlt
          have hn := Name_any l[k] wr (HL.out wr hBr).tabs
          rw [HN.out _ (List.getElem_mem hlt)] at hn
          have HNN := Lib.hid hn
          generalize l[k] = x at *
          have i1 : (k : Int) < l.length := by omega
          clear hbel hn hBr
          go_wp2_with (fail)
          refine HNN.out.mono ?_
          rintro e w5 ⟨rfl, hw5⟩
          have HB5 := Lib.hid (HBB.out.trans (hw5.mono HBB.out.size))
          clear hw5
          go_wp2_with (fail)
          go_roundw
          case rel => exact ⟨k + 1, by omega, by go_num, HB5⟩
          case measure => simp [intOf]; omega
        · obtain rfl : k = l.length := by omega
          obtain ⟨ad, rfl, cS⟩ := (hr4.below hbel).str_at (show l.length - 1 < l.length by omega)
          have hg : l[l.length - 1]'(by omega) = s := by
            have h := HLAST.out
            rw [List.getElem?_eq_getElem (by omega)] at h
            injection h
          rw [hg] at cS
          have e1 : IntKind.i64.wrap ((l.length : Int) - 1) = (l.length : Int) - 1 := IntWalk.i64_in _ (by omega)
          have e2 : ((l.length : Int) - 1).toNat = l.length - 1 := by omega
          have e3 : (0 : Int) ≤ (l.length : Int) - 1 := by omega
          have hcell : ∀ W, Below wr.heap.size wr W → W.cell? (ad.add (l.length - 1)) = some (.string ⟨s.toArray⟩) := fun W hW => (hW.cell (World.block_lt_of_cell? _ _ cS)).trans cS
          have HCE := Lib.hid hcell
          clear hbel hg hcell cS
          go_wp2_with (fail)
          refine (HU.out wr (HL.out wr hBr)).mono ?_
          rintro e w5 ⟨rfl, hw5⟩
          have hB5 := hBr.trans (hw5.mono hBr.size)
          go_wp2_with (fail)
          refine (HB.out w5 (HL.out w5 hB5)).mono ?_
          rintro e w6 ⟨rfl, hw6⟩
          have hB6 := hB5.trans (hw6.mono hB5.size)
          have hc6 := HCE.out w6 (hw5.trans (hw6.mono hw5.size))
          clear hw5 hw6 hB5 hBr
          go_wp2_with (fail)
          go_ret
          exact ⟨rfl, hB6⟩

open Go.ChangeShapes Go.WideShapes Go.ChangeAt in
/-- What the walk gives, for every argument. -/
theorem NameBack_contract (H : Type) (enc : TypeId × Value → H) (W : World) (base : Nat) (args : Array Value) (ds gs : List (DataW H)) (before : List MemPlace)
    (hval : ∀ (j : Nat) t v, Tryd.f6.params[j]? = some t → args[j]? = some v → Value.okWide Tryd.prog W .any base t v)
    (hW : DataW.Whole enc Tryd.prog Tryd.f6.params.toList Rows.nameBackSpec.vars false W args.toList ds gs before) (hL : laidMetH Tryd.prog Rows.nameBackRow.laid W) (hS : W.ShapedOpen Tryd.prog) :
    Calls Tryd.prog 6 args W fun e W' => ∃ v, e = .returned v ∧ Rows.nameBackSpec.post enc Tryd.prog Tryd.f6 false true false false W args v W' := by
  have hW' := hW
  obtain ⟨p, q, hA0, hV, rfl, hfz, hnd⟩ := hW
  have hA : DataW.TrodAll enc Tryd.prog W 0 (fun _ => true) true Tryd.f6.params.toList args.toList ds p := hA0
  rw [Tryd.params6] at hA hval
  obtain ⟨v0, vs0, d0, ds0, p0, q0, hargs, rfl, rfl, h0, r0⟩ := trodAll_cons hA
  obtain ⟨rfl, rfl, rfl⟩ := trodAll_nil r0
  obtain rfl : args = #[v0] := by cases args; simp_all
  obtain ⟨rfl, rfl⟩ := trodVars_none hV
  obtain ⟨x0, rfl, rfl, rfl, k0⟩ := ChangeMaps.open_string Tryd.underlying9 (hval 0 9 v0 rfl rfl) h0
  have k0 : x0.data.toList.length ≤ 9223372036854775807 := by unfold maxLen at k0; simpa using k0
  clear hA0
  obtain ⟨m, hm⟩ := laid_of hL hS
  refine (NameBack_any _ m W hm (by unfold maxLen at *; omega)).mono ?_
  exact fun e W' ⟨he, hb⟩ => ⟨_, he, law_post rfl hW' rfl (by kernel_rfl) Tryd.underlying4 (by kernel_rfl) laidOut hb⟩

open Go.ChangeShapes Go.WideShapes Go.ChangeAt in
theorem NameBack_met (os : Os) : laidMet Tryd.prog Rows.nameBackRow.laid ((laidWorld os).forCall (fun _ _ => 0) ⟨#[], #[.string ⟨#[]⟩], []⟩).memory :=
  laidMet_of_run' 8 (by kernel_rfl) (by kernel_rfl)
open Go.ChangeShapes Go.WideShapes Go.ChangeAt in
theorem NameBack_reads (os : Os) {H : Type} (enc : TypeId × Value → H) : ∃ places, DataW.whole enc Tryd.prog ((laidWorld os).forCall (fun _ _ => 0) ⟨#[], #[.string ⟨#[]⟩], []⟩).memory Tryd.f6.params.toList Rows.nameBackSpec.vars false #[.string ⟨#[]⟩].toList 8 = some ([.lit (.string [])], [], places) :=
  ⟨[], by kernel_rfl⟩

open Go.ChangeShapes Go.WideShapes Go.ChangeAt in
set_option maxRecDepth 100000 in
theorem NameBack_lifted (os : Os) (started : os.Started) (H : Type) (enc : TypeId × Value → H) (F : Stop.Interp) :
    ReturnsInHanded {} Tryd.checked os 6 .any ((OpenSpec.ofChange Rows.nameBackSpec).preRow enc Tryd.prog Tryd.f6 Rows.nameBackRow.domain false Rows.nameBackRow.laid) (((OpenSpec.ofChange Rows.nameBackSpec).at F).post enc Tryd.prog Tryd.f6 false true false false) := by
  obtain ⟨places, hx⟩ := NameBack_reads os enc
  refine returnsInHanded_of_row (C := Tryd.checked) (s := OpenSpec.ofChange Rows.nameBackSpec) own started (by kernel_rfl) Tryd.func6
    (witness_row_at (enc := enc) (C := Tryd.checked) false (laidWorld os) #[.string ⟨#[]⟩] rfl (by kernel_rfl) (by kernel_rfl) (by kernel_rfl)
      (OpenSpec.preRow_of_cond 8 hx (by kernel_rfl) (fun k hk => by cases hk) (by kernel_rfl) (NameBack_met os))) ?_
  intro W base args ds gs before hval hW _ hcond _ hL hS _
  exact NameBack_contract H enc W base args ds gs before hval hW hL hS

theorem NameBack_said : Rows.NameBackSaid :=
  OpenClaim.holds_of_cond 6 Tryd.f6 rfl rfl rfl rfl rfl rfl rfl ⟨rfl, rfl, rfl, rfl, rfl⟩ rfl rfl rfl rfl rfl (by kernel_rfl) Tryd.func6 (by kernel_rfl)
    (of_decide_eq_true (by kernel_rfl)) (by unfold Func.isWrapper; first | (rw [if_pos (by decide +kernel)]; kernel_rfl) | (rw [if_neg (by decide +kernel)]; exact ⟨rfl, rfl⟩))
    (fun os started H enc _ F => by rw [OpenClaim.pre_eq_preRow]; exact NameBack_lifted os started H enc F)

theorem NameBack_holds : Rows.NameBackCardSaid :=
  Claim7.holds_tied_plain_at .later [] _ _ _ _ NameBack_said (fun _ h => by cases h) (by kernel_rfl) (fun _ h => by cases h) nameBack_row_tie rfl ⟨rfl, rfl⟩ (by kernel_rfl) rfl
    (card_plain (f0 := 6) (fn0 := Tryd.f6) (by kernel_rfl) Tryd.func6 (by kernel_rfl) (by kernel_rfl)) (by kernel_rfl)
end Go.Proofs.YtpfpjinkifggdaaDoor
