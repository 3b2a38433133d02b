/- hawserlaw01.NameClashes: what clashes is unlike, but for letters' size; where nothing is told no two do. -/
import Derived.Test.YtpfpjinkifggdaaDoorFold
import Derived.Test.YtpfpjinkifggdaaDoorNameAwake
import Derived.Test.YtpfpjinkifggdaaDoorTabs
import Derived.Test.YtpfpjinkifggdaaDoorCard
import Derived.Test.YtpfpjinkifggdaaDoorLoads
namespace Go.Proofs.YtpfpjinkifggdaaDoor
open Go.RowKit Plain

theorem clashB_parts {p q : List UInt8} (h : clashB p q = true) : (p == q) = false ∧ (foldM p == foldM q) = true := by
  unfold clashB at h
  simpa using h
theorem clashB_no {p q : List UInt8} (h : clashB p q = false) : (p == q) = true ∨ (p == q) = false ∧ (foldM p == foldM q) = false := by
  unfold clashB at h
  cases he : p == q
  · rw [he] at h; right; exact ⟨rfl, by simpa using h⟩
  · exact .inl rfl

set_option maxHeartbeats 4000000 in
theorem NameClashes_any (l : List (List UInt8)) (A : Option Addr) (c : Nat) (m : Int) (w : World) (hL : Laid w m) (hr : Reads w 1 A l.length (strs l)) (hlc : l.length ≤ c) (hcm : c ≤ 9223372036854775807) (hln : ∀ x ∈ l, x.length ≤ 9223372036854775807) :
    Calls Tryd.prog 3 #[.slice A l.length c] w (Ret w (.bool true)) := by
  have HAW := Lib.hid (awake_any m w hL)
  clear hL
  by_cases h30 : 30 < l.length
  · have hd : decide ((30 : Int) < l.length) = true := by simp; omega
    go_enter Tryd.func3, Tryd.ntmps3
    go_wp2_with (fail)
    refine HAW.out.mono ?_
    rintro e w1 ⟨rfl, hw1⟩
    go_wp2_with (fail)
    go_ret
    exact ⟨rfl, hw1⟩
  have hd : decide ((30 : Int) < l.length) = false := by simp; omega
  have HC := Lib.hid (fun W h => Clash_any l A c W h hlc (by omega) hln)
  have HF := Lib.hid (fun (x : List UInt8) (hx : x ∈ l) W => Fold_any x W (hln x hx))
  have HR := Lib.hid hr
  clear hln hr
  go_enter Tryd.func3, Tryd.ntmps3
  go_wp2_with (fail)
  refine HAW.out.mono ?_
  rintro e w1 ⟨rfl, hw1⟩
  go_wp2_with (fail)
  refine (HC.out w1 (HR.out.below hw1)).mono ?_
  rintro e w2 ⟨i, j, rfl, hP, hw2⟩
  have hB2 := hw1.trans (hw2.mono hw1.size)
  have HR2 := Lib.hid (HR.out.below hB2)
  clear hw1 hw2
  rcases hP with ⟨i', j', rfl, rfl, hij, hjl, hcl⟩ | ⟨rfl, rfl, hno⟩
  · obtain ⟨c1, c2⟩ := clashB_parts hcl
    have gi : l.getD i' [] = l[i']'(by omega) := by simp [List.getD, show i' < l.length by omega]
    have gj : l.getD j' [] = l[j'] := by simp [List.getD, hjl]
    rw [gi, gj] at c1 c2
    obtain ⟨ad, rfl, cI⟩ := HR2.out.str_at (show i' < l.length by omega)
    obtain ⟨ad', hA', cJ⟩ := HR2.out.str_at hjl
    injection hA' with hA'
    subst hA'
    have HFI := Lib.hid (HF.out l[i'] (List.getElem_mem (by omega)))
    have HFJ := Lib.hid (HF.out l[j'] (List.getElem_mem hjl))
    generalize l[i']'(by omega) = x at *
    generalize l[j'] = y at *
    have c1' : (x == y) = false := by rw [beq_eq_false_iff_ne] at c1 ⊢; exact fun e => c1 e.symm
    have c2' : (foldM x == foldM y) = true := by rw [beq_iff_eq] at c2 ⊢; exact c2.symm
    generalize foldM x = fx at *
    generalize foldM y = fy at *
    have i0 : (0 : Int) ≤ i' := by omega
    have j0 : (0 : Int) ≤ j' := by omega
    have i1 : (i' : Int) < j' := by omega
    have i2 : (i' : Int) < l.length := by omega
    have j1 : (j' : Int) < l.length := by omega
    have d1 : decide ((i' : Int) < j') = true := by simp; omega
    have d2 : decide (i' < j') = true := by simp; omega
    have d3 : decide ((j' : Int) < l.length) = true := by simp; omega
    have d4 : decide (j' < l.length) = true := by simp; omega
    have HCC := Lib.hid hcl
    clear hcl gi gj c1 c2
    have HCI := Lib.hid cI
    have HCJ := Lib.hid cJ
    clear cI cJ
    go_wp2_with (fail)
    refine wp_region_below (by kernel_rfl) (by kernel_rfl) ?_
    repeat first
      | (go_big_quiet_want; refine quiet_load_cell 9 _ rfl _ rfl _ _ HCI.out Tryd.underlying9 rfl ?_; simp only [Act.put, List.setIfInBounds_toArray, List.set_cons_succ, List.set_cons_zero]; go_big_quiet_on)
      | (go_big_quiet_want; refine quiet_load_cell 9 _ rfl _ rfl _ _ HCJ.out Tryd.underlying9 rfl ?_; simp only [Act.put, List.setIfInBounds_toArray, List.set_cons_succ, List.set_cons_zero]; go_big_quiet_on)
      | go_big_quiet_step ((intro hW; first | (with_reducible exact Ret.quiet hW (HFI.out _)) | (with_reducible exact Ret.quiet hW (HFJ.out _))))
    refine wpQuiet_nil ?_
    intro W3 hW3
    go_wp2_with (fail)
    go_ret
    exact ⟨rfl, hB2.trans (hW3.mono hB2.size)⟩
  · have HNO := Lib.hid hno
    clear hno
    go_wp2_with (fail)
    go_loopw [54] (fun t54 W => ∃ a : Nat, a ≤ l.length ∧ t54 = .int .i64 a ∧ Hid (Below w2.heap.size w2 W)) (fun t54 _ => l.length - (intOf t54).toNat)
    case atStart => exact ⟨0, by omega, rfl, Lib.hid (Below.refl _ _)⟩
    case round =>
      obtain ⟨a, ha, rfl, HB⟩ := hrel
      have a0 : (0 : Int) ≤ a := by omega
      by_cases hlt : a < l.length
      · have a1 : (a : Int) < l.length := by omega
        go_wp2_with (fail)
        go_loopw [58] (fun t58 W => ∃ b : Nat, b ≤ a ∧ t58 = .int .i64 b ∧ Hid (Below w2.heap.size w2 W)) (fun t58 _ => a - (intOf t58).toNat)
        case atStart => exact ⟨0, by omega, rfl, HB⟩
        case round =>
          clear HB
          obtain ⟨b, hb, rfl, HB⟩ := hrel
          have b0 : (0 : Int) ≤ b := by omega
          by_cases hlb : b < a
          · have b1 : (b : Int) < a := by omega
            have b2 : (b : Int) < l.length := by omega
            have hno := HNO.out a b hlb hlt
            have ga : l.getD a [] = l[a] := by simp [List.getD, hlt]
            have gb : l.getD b [] = l[b]'(by omega) := by simp [List.getD, show b < l.length by omega]
            rw [ga, gb] at hno
            have hbel := HB.out
            obtain ⟨ad, rfl, cA⟩ := (HR2.out.below hbel).str_at hlt
            obtain ⟨ad', hA', cB⟩ := (HR2.out.below hbel).str_at (show b < l.length by omega)
            injection hA' with hA'
            subst hA'
            have HFA := Lib.hid (HF.out l[a] (List.getElem_mem hlt))
            have HFB := Lib.hid (HF.out (l[b]'(by omega)) (List.getElem_mem (by omega)))
            generalize l[a] = x at *
            generalize l[b]'(by omega) = y at *
            have HCA := Lib.hid cA
            have HCB := Lib.hid cB
            clear ga gb hbel
            rcases clashB_no hno with e1 | ⟨e1, e2⟩
            · clear hno
              go_wp2_with (fail)
              go_quiet (fail)
              go_wp2_with (fail)
              go_roundw
              case rel => exact ⟨b + 1, by omega, by go_num, Lib.hid (below_drewN HB.out _)⟩
              case measure => simp [intOf]; omega
            · generalize foldM x = fx at *
              generalize foldM y = fy at *
              clear hno cA cB
              go_wp2_with (fail)
              refine wp_region_below (by kernel_rfl) (by kernel_rfl) ?_
              repeat first
                | (go_big_quiet_want; refine quiet_load_cell 9 _ rfl _ rfl _ _ HCA.out Tryd.underlying9 rfl ?_; simp only [Act.put, List.setIfInBounds_toArray, List.set_cons_succ, List.set_cons_zero]; go_big_quiet_on)
                | (go_big_quiet_want; refine quiet_load_cell 9 _ rfl _ rfl _ _ HCB.out Tryd.underlying9 rfl ?_; simp only [Act.put, List.setIfInBounds_toArray, List.set_cons_succ, List.set_cons_zero]; go_big_quiet_on)
                | go_big_quiet_step ((intro hW; first | (with_reducible exact Ret.quiet hW (HFA.out _)) | (with_reducible exact Ret.quiet hW (HFB.out _))))
              refine wpQuiet_nil ?_
              intro W3 hW3
              go_wp2_with (fail)
              go_roundw
              case rel => exact ⟨b + 1, by omega, by go_num, Lib.hid (HB.out.trans (hW3.mono HB.out.size))⟩
              case measure => simp [intOf]; omega
          · obtain rfl : b = a := by omega
            go_wp2_with (fail)
            go_roundw
            case rel => exact ⟨b + 1, by omega, by go_num, HB⟩
            case measure => simp [intOf]; omega
      · obtain rfl : a = l.length := by omega
        go_wp2_with (fail)
        go_ret
        exact ⟨rfl, hB2.trans (HB.out.mono hB2.size)⟩

open Go.ChangeShapes Go.WideShapes Go.ChangeAt in
/-- What the walk gives, for every argument. -/
theorem NameClashes_contract (H : Type) (enc : TypeId × Value → H) (W : World) (base : Nat) (args : Array Value) (ds gs : List (DataW H)) (before : List MemPlace)
    (hval : ∀ (j : Nat) t v, Tryd.f3.params[j]? = some t → args[j]? = some v → Value.okWide Tryd.prog W .any base t v)
    (hW : DataW.Whole enc Tryd.prog Tryd.f3.params.toList Rows.nameClashesSpec.vars false W args.toList ds gs before) (hL : laidMetH Tryd.prog Rows.nameClashesRow.laid W) (hS : W.ShapedOpen Tryd.prog) :
    Calls Tryd.prog 3 args W fun e W' => ∃ v, e = .returned v ∧ Rows.nameClashesSpec.post enc Tryd.prog Tryd.f3 false true false false W args v W' := by
  have hW' := hW
  obtain ⟨p, q, hA0, hV, rfl, hfz, hnd⟩ := hW
  have hA : DataW.TrodAll enc Tryd.prog W 0 (fun _ => true) true Tryd.f3.params.toList args.toList ds p := hA0
  rw [Tryd.params3] at hA hval
  obtain ⟨v0, vs0, d0, ds0, p0, q0, hargs, rfl, rfl, h0, r0⟩ := trodAll_cons hA
  obtain ⟨rfl, rfl, rfl⟩ := trodAll_nil r0
  obtain rfl : args = #[v0] := by cases args; simp_all
  obtain ⟨rfl, rfl⟩ := trodVars_none hV
  obtain ⟨A0, c0, x0, rfl, hc0, hm0, k0, ks0, kd0⟩ := open_texts Tryd.underlying22 Tryd.underlying9 (by kernel_rfl) (hval 0 22 v0 rfl rfl) h0
  clear hA0
  obtain ⟨m, hm⟩ := laid_of hL hS
  refine (NameClashes_any x0 _ c0 m W hm k0 hc0 (by unfold maxLen at *; omega) (fun x hx => by have := ks0 x hx; unfold maxLen at *; omega)).mono ?_
  exact fun e W' ⟨he, hb⟩ => ⟨_, he, law_post rfl hW' rfl (by kernel_rfl) Tryd.underlying4 (by kernel_rfl) laidOut hb⟩

open Go.ChangeShapes Go.WideShapes Go.ChangeAt in
theorem NameClashes_met (os : Os) : laidMet Tryd.prog Rows.nameClashesRow.laid ((laidWorld os).forCall (fun _ _ => 0) ⟨#[], #[.slice none 0 0], []⟩).memory :=
  laidMet_of_run' 8 (by kernel_rfl) (by kernel_rfl)
open Go.ChangeShapes Go.WideShapes Go.ChangeAt in
theorem NameClashes_reads (os : Os) {H : Type} (enc : TypeId × Value → H) : ∃ places, DataW.whole enc Tryd.prog ((laidWorld os).forCall (fun _ _ => 0) ⟨#[], #[.slice none 0 0], []⟩).memory Tryd.f3.params.toList Rows.nameClashesSpec.vars false #[.slice none 0 0].toList 8 = some ([.nil], [], places) :=
  ⟨[], by kernel_rfl⟩

open Go.ChangeShapes Go.WideShapes Go.ChangeAt in
set_option maxRecDepth 100000 in
theorem NameClashes_lifted (os : Os) (started : os.Started) (H : Type) (enc : TypeId × Value → H) (F : Stop.Interp) :
    ReturnsInHanded {} Tryd.checked os 3 .any ((OpenSpec.ofChange Rows.nameClashesSpec).preRow enc Tryd.prog Tryd.f3 Rows.nameClashesRow.domain false Rows.nameClashesRow.laid) (((OpenSpec.ofChange Rows.nameClashesSpec).at F).post enc Tryd.prog Tryd.f3 false true false false) := by
  obtain ⟨places, hx⟩ := NameClashes_reads os enc
  refine returnsInHanded_of_row (C := Tryd.checked) (s := OpenSpec.ofChange Rows.nameClashesSpec) own started (by kernel_rfl) Tryd.func3
    (witness_row_at (enc := enc) (C := Tryd.checked) false (laidWorld os) #[.slice none 0 0] rfl (by kernel_rfl) (by kernel_rfl) (by kernel_rfl)
      (OpenSpec.preRow_of_cond 8 hx (by kernel_rfl) (fun k hk => by cases hk) (by kernel_rfl) (NameClashes_met os))) ?_
  intro W base args ds gs before hval hW _ hcond _ hL hS _
  exact NameClashes_contract H enc W base args ds gs before hval hW hL hS

theorem NameClashes_said : Rows.NameClashesSaid :=
  OpenClaim.holds_of_cond 3 Tryd.f3 rfl rfl rfl rfl rfl rfl rfl ⟨rfl, rfl, rfl, rfl, rfl⟩ rfl rfl rfl rfl rfl (by kernel_rfl) Tryd.func3 (by kernel_rfl)
    (of_decide_eq_true (by kernel_rfl)) (by unfold Func.isWrapper; first | (rw [if_pos (by decide +kernel)]; kernel_rfl) | (rw [if_neg (by decide +kernel)]; exact ⟨rfl, rfl⟩))
    (fun os started H enc _ F => by rw [OpenClaim.pre_eq_preRow]; exact NameClashes_lifted os started H enc F)

theorem NameClashes_holds : Rows.NameClashesCardSaid :=
  Claim7.holds_tied_plain_at .later [] _ _ _ _ NameClashes_said (fun _ h => by cases h) (by kernel_rfl) (fun _ h => by cases h) nameClashes_row_tie rfl ⟨rfl, rfl⟩ (by kernel_rfl) rfl
    (card_plain (f0 := 3) (fn0 := Tryd.f3) (by kernel_rfl) Tryd.func3 (by kernel_rfl) (by kernel_rfl)) (by kernel_rfl)
end Go.Proofs.YtpfpjinkifggdaaDoor
