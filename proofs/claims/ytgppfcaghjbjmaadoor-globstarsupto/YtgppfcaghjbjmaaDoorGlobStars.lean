/- hawserlaw02.GlobStars: ** ahead of a pattern matches it at any depth. The condition: the arguments' bulk is what a machine can hold (Upto). -/
import Derived.Test.YtgppfcaghjbjmaaDoorGlob8
import Derived.Test.YtgppfcaghjbjmaaDoorNameRefB
import Derived.Test.YtgppfcaghjbjmaaDoorTabs
import Derived.Test.YtgppfcaghjbjmaaDoorCard
import Derived.Test.YtgppfcaghjbjmaaDoorOpen
import Derived.Test.YtgppfcaghjbjmaaDoorClose
namespace Go.Proofs.YtgppfcaghjbjmaaDoor
open Go.RowKit Plain

set_option maxHeartbeats 4000000 in
set_option maxRecDepth 100000 in
theorem GlobStars_any (p s : List UInt8) (m : Int) (w : World) (hL : Laid w m) (hp : p.length ≤ 9223372036854775807) (hs : s.length ≤ 8796093022200) :
    Calls Tryd.prog 4 #[.string ⟨p.toArray⟩, .string ⟨s.toArray⟩] w (Ret w (.bool true)) := by
  have HAW := Lib.hid (awake_any m w hL)
  have hPR := fun W => Path_ref s W hs
  cases hok : pathOK s with
  | false =>
    rw [hok] at hPR
    have HPR := Lib.hid hPR
    clear hPR hok hL hs hp
    go_enter Tryd.func4, Tryd.ntmps4
    go_wp2_with (fail)
    refine HAW.out.mono ?_
    rintro e w1 ⟨rfl, hw1⟩
    go_wp2_with (fail)
    refine (HPR.out _).mono ?_
    rintro e w2 ⟨rfl, hw2⟩
    go_wp2_with (fail)
    go_ret
    exact ⟨rfl, hw1.trans (hw2.mono hw1.size)⟩
  | true =>
    rw [hok] at hPR
    have HPR := Lib.hid hPR
    by_cases h40 : 40 < p.length
    · have h40' : decide ((40 : Int) < (p.length : Int)) = true := by rw [decide_eq_true_eq]; omega
      clear hPR hok hL hs hp h40
      go_enter Tryd.func4, Tryd.ntmps4
      go_wp2_with (fail)
      refine HAW.out.mono ?_
      rintro e w1 ⟨rfl, hw1⟩
      go_wp2_with (fail)
      refine (HPR.out _).mono ?_
      rintro e w2 ⟨rfl, hw2⟩
      go_wp2_with (fail)
      go_ret
      exact ⟨rfl, hw1.trans (hw2.mono hw1.size)⟩
    have h40' : decide ((40 : Int) < (p.length : Int)) = false := by rw [decide_eq_false_iff_not]; omega
    have hM := fun q W (h : Below w.heap.size w W) (hq : q.length ≤ 100) => Match_any q s m W (hL.below h) (by omega) (by omega)
    have h1 := fun W h => hM [42, 42] W h (by decide)
    have h2 := fun W h => hM [42] W h (by decide)
    have h3 := fun W h => hM [42, 42, 47, 42] W h (by decide)
    have h4 := fun W h => hM p W h (by omega)
    have h5 := fun W h => hM (42 :: 42 :: 47 :: p) W h (by simp; omega)
    have hC := fun W (h : Below w.heap.size w W) => Check_any p W (hL.below h).tabs hp
    rw [matchG_2stars hok] at h1
    rw [matchG_star hok] at h2
    rw [matchG_3 hok] at h3
    have hke : 47 ∉ p → (checkP 400 p).2 = 0 → matchG (42 :: 42 :: 47 :: p) s = matchG p s ∨ p = [42, 42] := fun a b => by
      by_cases q : p = [42, 42]
      · exact .inr q
      · exact .inl (matchG_ahead hok (okG_iff.2 b) (by omega) a q)
    have H1 := Lib.hid h1
    have H2 := Lib.hid h2
    have H3 := Lib.hid h3
    have H4 := Lib.hid h4
    have H5 := Lib.hid h5
    generalize (checkP 400 p).2 = e at *
    generalize (checkP 400 p).1 = k at *
    generalize matchG (42 :: 42 :: 47 :: p) s = b1 at *
    generalize matchG p s = b2 at *
    have HC := Lib.hid hC
    have HKE := Lib.hid hke
    have h40 : p.length ≤ 40 := by omega
    clear hPR hok hL hs hp h1 h2 h3 h4 h5 hM hC hke
    go_enter Tryd.func4, Tryd.ntmps4
    go_wp2_with (fail)
    refine HAW.out.mono ?_
    rintro e w1 ⟨rfl, hw1⟩
    go_wp2_with (fail)
    refine (HPR.out _).mono ?_
    rintro e w2 ⟨rfl, hw2⟩
    have hB2 := hw1.trans (hw2.mono hw1.size)
    clear hw1 hw2
    go_wp2_with (fail)
    refine (H1.out _ hB2).mono ?_
    rintro e w3 ⟨rfl, hw3⟩
    have hB3 := hB2.trans (hw3.mono hB2.size)
    clear hB2 hw3
    go_wp2_with (fail)
    refine (H2.out _ hB3).mono ?_
    rintro e w4 ⟨rfl, hw4⟩
    have hB4 := hB3.trans (hw4.mono hB3.size)
    clear hB3 hw4
    go_wp2_with (fail)
    refine (H3.out _ hB4).mono ?_
    rintro e w5 ⟨rfl, hw5⟩
    have hB5 := hB4.trans (hw5.mono hB4.size)
    clear hB4 hw5
    go_wp2_with (fail)
    refine (HC.out _ hB5).mono ?_
    rintro e w6 ⟨rfl, hw6⟩
    have HB6 := Lib.hid (hB5.trans (hw6.mono hB5.size))
    clear hB5 hw6
    go_wp2_with (fail)
    go_loopw [7] (fun t7 W => ∃ i : Nat, i ≤ p.length ∧ t7 = .int .i64 i ∧ Hid (∀ j (h : j < p.length), j < i → p[j] ≠ 47) ∧ W = w6) (fun t7 _ => p.length - (intOf t7).toNat)
    case atStart => exact ⟨0, by omega, rfl, Lib.hid (fun j _ h => by omega), rfl⟩
    case round =>
      obtain ⟨i, hi, rfl, HJ, rfl⟩ := hrel
      have i0 : (0 : Int) ≤ i := by omega
      by_cases hlt : i < p.length
      · by_cases h47 : p[i] = 47
        · go_wp2_with (fail)
          go_ret
          exact ⟨rfl, HB6.out⟩
        · have HJ2 := Lib.hid (show ∀ j (h : j < p.length), j < i + 1 → p[j] ≠ 47 from fun j h hj => by
            by_cases e : j = i
            · subst e; exact h47
            · exact HJ.out j h (by omega))
          generalize hc : p[i] = c at *
          have hq := u8_ne (n := 47) (by omega) h47
          clear h47
          go_wp2_with (fail)
          go_roundw
          case rel => exact ⟨i + 1, by omega, by go_num, HJ2, by first | trivial | rfl⟩
          case measure => simp [intOf]; omega
      · have hno : 47 ∉ p := fun hm => by
          obtain ⟨j, hj, e⟩ := List.getElem_of_mem hm
          exact HJ.out j hj (by omega) e
        by_cases he : e = 0
        · subst he
          rcases HKE.out hno rfl with rfl | h2
          · have HNO := Lib.hid hno
            clear hno
            go_wp2_with (fail)
            refine (H5.out _ HB6.out).mono ?_
            rintro e w7 ⟨rfl, hw7⟩
            have hB7 := HB6.out.trans (hw7.mono HB6.out.size)
            clear hw7
            go_wp2_with (fail)
            refine (H4.out _ hB7).mono ?_
            rintro e w8 ⟨rfl, hw8⟩
            have hB8 := hB7.trans (hw8.mono hB7.size)
            clear hw8 hB7
            go_wp2_with (fail)
            go_ret
            exact ⟨by simp, hB8⟩
          · have h2b : (p == [42, 42]) = true := by rw [h2]; rfl
            clear hno h2
            obtain ⟨b, hb⟩ : ∃ b, (b1 == b2) = b := ⟨_, rfl⟩
            go_wp2_with (fail)
            refine (H5.out _ HB6.out).mono ?_
            rintro e w7 ⟨rfl, hw7⟩
            have hB7 := HB6.out.trans (hw7.mono HB6.out.size)
            clear hw7
            go_wp2_with (fail)
            refine (H4.out _ hB7).mono ?_
            rintro e w8 ⟨rfl, hw8⟩
            have hB8 := hB7.trans (hw8.mono hB7.size)
            clear hw8 hB7
            cases b with
            | true =>
              go_wp2_with (fail)
              go_ret
              exact ⟨rfl, hB8⟩
            | false =>
              go_wp2_with (fail)
              go_ret
              exact ⟨rfl, hB8⟩
        · have heb : ((e : Int) != 0) = true := by rw [bne_iff_ne]; omega
          clear he hno
          go_wp2_with (fail)
          go_ret
          exact ⟨rfl, HB6.out⟩

open Go.ChangeShapes Go.WideShapes Go.ChangeAt in
/-- What the walk gives, for every argument. -/
theorem GlobStars_contract (H : Type) (enc : TypeId × Value → H) (W : World) (base : Nat) (args : Array Value) (ds gs : List (DataW H)) (before : List MemPlace)
    (hval : ∀ (j : Nat) t v, Tryd.f4.params[j]? = some t → args[j]? = some v → Value.okWide Tryd.prog W .any base t v)
    (hW : DataW.Whole enc Tryd.prog Tryd.f4.params.toList Rows.globStarsSpec.vars false W args.toList ds gs before) (hL : laidMetH Tryd.prog Rows.globStarsRow.laid W) (hS : W.ShapedOpen Tryd.prog) (hk : Rows.uptoSmall H (ds ++ gs) = true) :
    Calls Tryd.prog 4 args W fun e W' => ∃ v, e = .returned v ∧ Rows.globStarsSpec.post enc Tryd.prog Tryd.f4 false true false false W args v W' := by
  have hW' := hW
  obtain ⟨p, q, hA0, hV, rfl, hfz, hnd⟩ := hW
  have hA : DataW.TrodAll enc Tryd.prog W 0 (fun _ => true) true Tryd.f4.params.toList args.toList ds p := hA0
  rw [Tryd.params4] at hA hval
  obtain ⟨v0, vs0, d0, ds0, p0, q0, hargs, rfl, rfl, h0, r0⟩ := trodAll_cons hA
  obtain ⟨v1, vs1, d1, ds1, p1, q1, rfl, rfl, rfl, h1, r1⟩ := trodAll_cons r0
  obtain ⟨rfl, rfl, rfl⟩ := trodAll_nil r1
  obtain rfl : args = #[v0, v1] := by cases args; simp_all
  obtain ⟨rfl, rfl⟩ := trodVars_none hV
  obtain ⟨x0, rfl, rfl, rfl, k0⟩ := ChangeMaps.open_string Tryd.underlying9 (hval 0 9 v0 rfl rfl) h0
  have k0 : x0.data.toList.length ≤ 9223372036854775807 := by unfold maxLen at k0; simpa using k0
  obtain ⟨x1, rfl, rfl, rfl, k1⟩ := ChangeMaps.open_string Tryd.underlying9 (hval 1 9 v1 rfl rfl) h1
  have k1 : x1.data.toList.length ≤ 9223372036854775807 := by unfold maxLen at k1; simpa using k1
  clear hA0
  have hbulk := bulk_bound hk
  simp only [List.cons_append, List.nil_append, List.append_nil, Rows.uptoBulkAll] at hbulk
  obtain ⟨m, hm⟩ := laid_of hL hS
  simp [Rows.uptoBulk] at hbulk
  have z0 : x0.data.toList.length = x0.size := by rw [Array.length_toList]; rfl
  have z1 : x1.data.toList.length = x1.size := by rw [Array.length_toList]; rfl
  refine (GlobStars_any _ _ m W hm (by unfold maxLen at *; omega) (by show x1.data.toList.length ≤ _; rw [z1]; omega)).mono ?_
  exact fun e W' ⟨he, hb⟩ => ⟨_, he, law_post rfl hW' rfl (by kernel_rfl) Tryd.underlying4 (by kernel_rfl) laidOut hb⟩

open Go.ChangeShapes Go.WideShapes Go.ChangeAt in
theorem GlobStars_met (os : Os) : laidMet Tryd.prog Rows.globStarsUptoRow.laid ((laidWorld os).forCall (fun _ _ => 0) ⟨#[], #[.string ⟨#[]⟩, .string ⟨#[]⟩], []⟩).memory :=
  laidMet_of_run' 8 (by kernel_rfl) (by kernel_rfl)
open Go.ChangeShapes Go.WideShapes Go.ChangeAt in
theorem GlobStars_reads (os : Os) {H : Type} (enc : TypeId × Value → H) : ∃ places, DataW.whole enc Tryd.prog ((laidWorld os).forCall (fun _ _ => 0) ⟨#[], #[.string ⟨#[]⟩, .string ⟨#[]⟩], []⟩).memory Tryd.f4.params.toList Rows.globStarsSpec.vars false #[.string ⟨#[]⟩, .string ⟨#[]⟩].toList 8 = some ([.lit (.string []), .lit (.string [])], [], places) :=
  ⟨[], by kernel_rfl⟩

open Go.ChangeShapes Go.WideShapes Go.ChangeAt in
set_option maxRecDepth 100000 in
theorem GlobStars_lifted (os : Os) (started : os.Started) (H : Type) (enc : TypeId × Value → H) (F : Stop.Interp) :
    ReturnsInHanded {} Tryd.checked os 4 .any ((Rows.OpenSpec.upto Rows.globStarsSpec).preRow enc Tryd.prog Tryd.f4 Rows.globStarsUptoRow.domain false Rows.globStarsUptoRow.laid) (((Rows.OpenSpec.upto Rows.globStarsSpec).at F).post enc Tryd.prog Tryd.f4 false true false false) := by
  obtain ⟨places, hx⟩ := GlobStars_reads os enc
  refine returnsInHanded_of_row (C := Tryd.checked) (s := Rows.OpenSpec.upto Rows.globStarsSpec) own started (by kernel_rfl) Tryd.func4
    (witness_row_at (enc := enc) (C := Tryd.checked) false (laidWorld os) #[.string ⟨#[]⟩, .string ⟨#[]⟩] rfl (by kernel_rfl) (by kernel_rfl) (by kernel_rfl)
      (OpenSpec.preRow_of_cond 8 hx (by kernel_rfl) (fun k hk => by cases hk; kernel_rfl) (by kernel_rfl) (GlobStars_met os))) ?_
  intro W base args ds gs before hval hW _ hcond _ hL hS _
  exact GlobStars_contract H enc W base args ds gs before hval hW hL hS (hcond _ rfl)

theorem GlobStars_said : Rows.GlobStarsUptoSaid :=
  OpenClaim.holds_of_cond 4 Tryd.f4 rfl rfl rfl rfl rfl rfl rfl ⟨rfl, rfl, rfl, rfl, rfl⟩ rfl rfl rfl rfl rfl (by kernel_rfl) Tryd.func4 (by kernel_rfl)
    (of_decide_eq_true (by kernel_rfl)) (by unfold Func.isWrapper; first | (rw [if_pos (by decide +kernel)]; kernel_rfl) | (rw [if_neg (by decide +kernel)]; exact ⟨rfl, rfl⟩))
    (fun os started H enc _ F => by rw [OpenClaim.pre_eq_preRow]; exact GlobStars_lifted os started H enc F)

theorem GlobStars_holds : Rows.GlobStarsUptoCardSaid :=
  Claim7.holds_tied_plain_at .later [] _ _ _ _ GlobStars_said (fun _ h => by cases h) (by kernel_rfl) (fun _ h => by cases h) globStarsUpto_row_tie rfl ⟨rfl, rfl⟩ (by kernel_rfl) rfl
    (card_plain (f0 := 4) (fn0 := Tryd.f4) (by kernel_rfl) Tryd.func4 (by kernel_rfl) (by kernel_rfl)) (by kernel_rfl)
end Go.Proofs.YtgppfcaghjbjmaaDoor
