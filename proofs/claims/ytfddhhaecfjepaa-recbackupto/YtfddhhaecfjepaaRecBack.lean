/- hawserlaw05.RecBack, where what it is handed is small: whatever list of texts and text the law is handed, it answers true: what is joined is read back, what is read is joined as the text that was read. Condition: the bound of the second form. -/
import Derived.Test.YtfddhhaecfjepaaRecPacks
import Derived.Test.YtfddhhaecfjepaaTexts
namespace Go.Proofs.Ytfddhhaecfjepaa
open Go.RowKit Plain

theorem all_join : ∀ (l : List (List UInt8)), (∀ p ∈ l, p.length ≤ 1048576) → ∀ r, all (l.flatMap record ++ r) = (l ++ (all r).1, (all r).2)
  | [], _, r => by simp
  | p :: l, h, r => by
    have hp := h p (by simp)
    have hn := next_record p (l.flatMap record ++ r) hp
    simp only [List.flatMap_cons, List.append_assoc]
    have hne : record p ++ (l.flatMap record ++ r) ≠ [] := by
      intro e
      have := congrArg List.length e
      simp only [List.length_append, record_length, List.length_nil] at this
      omega
    rw [all_more hne (by rw [hn]), hn]
    simp only
    rw [all_join l (fun q hq => h q (by simp [hq])) r]
    simp

theorem join_codes (l : List (List UInt8)) : (join l = (l.flatMap record, 0) ∧ ∀ p ∈ l, p.length ≤ 1048576) ∨ join l = ([], 32) := by
  by_cases h : ∀ p ∈ l, p.length ≤ 1048576
  · exact .inl ⟨join_ok h, h⟩
  · simp only [Classical.not_forall] at h
    obtain ⟨p, hp, hb⟩ := h
    exact .inr (join_bad hp (by omega))

set_option maxHeartbeats 1000000 in
/-- The second half: what is read of s is joined as the text that was read. -/
theorem RecBack_any (A : Option Addr) (c : Nat) (l : List (List UInt8)) (s : List UInt8) (w : World) (hl : Reads w 1 A l.length (strs l)) (hw : weight l ≤ 1048576) (hs : s.length ≤ 1048576) :
    Calls Try.prog 6 #[.slice A l.length c, .string ⟨s.toArray⟩] w (Ret w (.bool true)) := by
  have hlen := weight_length l
  have hj := join_size l
  have hall : ∀ p ∈ l, p.length ≤ 9223372036854775807 := fun p hp => by have := weight_mem hp; omega
  have HALL := Lib.hid hall
  clear hall
  obtain ⟨f1, f2, f3, f4⟩ := all_facts _ s (Nat.le_refl _)
  -- what is joined of what was read
  have hjm := join_ok f3
  have hat : (all s).1.flatMap record = s.take (s.length - (all s).2.1.length) := by
    have : s.take (s.length - (all s).2.1.length) = (all s).1.flatMap record := by
      have hl2 := congrArg List.length f2
      rw [List.length_append] at hl2
      have h3 : ((all s).1.flatMap record ++ (all s).2.1).take (s.length - (all s).2.1.length) = (all s).1.flatMap record := List.take_left' (by omega)
      rw [← f2] at h3
      exact h3
    exact this.symm
  have hfl : ((all s).1.flatMap record).length ≤ s.length := by rw [hat]; simp
  have hm9 : ∀ p ∈ (all s).1, p.length ≤ 9223372036854775807 := fun p hp => by have := f3 p hp; omega
  have hal := all_length s
  obtain ⟨bb, hbe, hbK⟩ : ∃ bb : Bool, ((((all s).2.2 : Nat) : Int) == 0) = bb ∧ (((s.length - (all s).2.1.length : Nat) : Int) == (s.length : Int)) = bb := by
    by_cases h0 : (all s).2.1 = []
    · have := f4.2 h0
      exact ⟨true, by rw [this]; rfl, by rw [h0]; simp⟩
    · have h1 : (all s).2.2 ≠ 0 := fun e => h0 (f4.1 e)
      have h2 : 0 < (all s).2.1.length := List.length_pos_iff.2 h0
      exact ⟨false, beq_eq_false_iff_ne.2 (by omega), beq_eq_false_iff_ne.2 (by omega)⟩
  have hk1 : s.length - (all s).2.1.length ≤ s.length := by omega
  generalize hK : s.length - (all s).2.1.length = K at *
  have HJM := Lib.hid hjm
  have HAT := Lib.hid hat
  have HK := Lib.hid hK
  clear f1 f2 f3 f4 hjm hat hK
  -- the second half, from any world
  rcases join_codes l with ⟨hjl, hok⟩ | hjl
  · have hback := all_join l hok []
    rw [List.append_nil, all_nil, List.append_nil] at hback
    have HB := Lib.hid hback
    have hjoin := fun w1 (hb1 : Below w.heap.size w w1) => Join_any A c l w1 (hl.below hb1) (by omega) (by omega) HALL.out
    rw [hjl] at hjoin
    have HJ := Lib.hid hjoin
    have hall2 := fun w1 => All_any (l.flatMap record) w1 (by omega)
    rw [hback] at hall2
    have HA2 := Lib.hid hall2
    clear hjl hok hback hjoin hall2
    go_enter Try.func6, Try.ntmps6
    go_wp2_with (fail)
    refine (Ret.quiet (Below.refl _ _) (awake_any _)).mono ?_
    rintro e w1 ⟨rfl, hb1⟩
    go_wp2_with (fail)
    refine (Ret.quiet (hb1) (HJ.out _ hb1)).mono ?_
    rintro e w2 ⟨rfl, hb2⟩
    go_wp2_with (fail)
    refine (HA2.out w2).mono ?_
    rintro e w3 ⟨v3, rfl, h3, hb3⟩
    obtain ⟨A3, c3, rfl, _, _, hr3⟩ := h3
    go_wp2_with (fail)
    refine (Ret.quiet (Below.refl _ _) (Texts_any _ _ _ _ l l _ (((hl.below hb2).below hb3)) hr3 (by omega) (by omega))).mono ?_
    rintro e w4 ⟨rfl, hb4⟩
    go_wp2_with (fail)
    have HB4 := Lib.hid ((hb2.trans (hb3.mono hb2.size)).trans (hb4.mono (Nat.le_trans hb2.size hb3.size)))
    refine (All_any s _ (by omega)).mono ?_
    rintro e w5 ⟨v5, rfl, h5, hb5⟩
    obtain ⟨A5, c5, rfl, _, _, hr5⟩ := h5
    rw [HK.out]
    go_wp2_with (fail)
    refine (Ret.quiet (HB4.out.trans (hb5.mono HB4.out.size)) (Join_any A5 c5 (all s).1 _ hr5 (by omega) (by omega) hm9)).mono ?_
    rintro e w6 ⟨rfl, hb6⟩
    rw [HJM.out]
    go_wp2_with (fail)
    go_ret
    refine ⟨?_, hb6⟩
    have hat := HAT.out
    simp [hat]
  · have hjoin := fun w1 (hb1 : Below w.heap.size w w1) => Join_any A c l w1 (hl.below hb1) (by omega) (by omega) HALL.out
    rw [hjl] at hjoin
    have HJ := Lib.hid hjoin
    clear hjl hjoin
    go_enter Try.func6, Try.ntmps6
    go_wp2_with (fail)
    refine (Ret.quiet (Below.refl _ _) (awake_any _)).mono ?_
    rintro e w1 ⟨rfl, hb1⟩
    go_wp2_with (fail)
    refine (Ret.quiet (hb1) (HJ.out _ hb1)).mono ?_
    rintro e w2 ⟨rfl, hb2⟩
    go_wp2_with (fail)
    have HB4 := Lib.hid hb2
    refine (All_any s _ (by omega)).mono ?_
    rintro e w5 ⟨v5, rfl, h5, hb5⟩
    obtain ⟨A5, c5, rfl, _, _, hr5⟩ := h5
    rw [HK.out]
    go_wp2_with (fail)
    refine (Ret.quiet (HB4.out.trans (hb5.mono HB4.out.size)) (Join_any A5 c5 (all s).1 _ hr5 (by omega) (by omega) hm9)).mono ?_
    rintro e w6 ⟨rfl, hb6⟩
    rw [HJM.out]
    go_wp2_with (fail)
    go_ret
    refine ⟨?_, hb6⟩
    have hat := HAT.out
    simp [hat]

open Go.ChangeShapes Go.WideShapes Go.ChangeAt in
/-- What the walk gives, for every argument. -/
theorem RecBack_contract (H : Type) (enc : TypeId × Value → H) (W : World) (base : Nat) (args : Array Value) (ds gs : List (DataW H)) (before : List MemPlace)
    (hval : ∀ (j : Nat) t v, Try.f6.params[j]? = some t → args[j]? = some v → Value.okWide Try.prog W .any base t v)
    (hW : DataW.Whole enc Try.prog Try.f6.params.toList Rows.recBackSpec.vars false W args.toList ds gs before) (hk : Rows.uptoSmall H (ds ++ gs) = true) :
    Calls Try.prog 6 args W fun e W' => ∃ v, e = .returned v ∧ Rows.recBackSpec.post enc Try.prog Try.f6 false true false false W args v W' := by
  have hW' := hW
  obtain ⟨p, q, hA0, hV, rfl, hfz, hnd⟩ := hW
  have hA : DataW.TrodAll enc Try.prog W 0 (fun _ => true) true Try.f6.params.toList args.toList ds p := hA0
  rw [Try.params6] at hA hval
  obtain ⟨v0, vs0, d0, ds0, p0, q0, hargs, rfl, rfl, h0, r0⟩ := trodAll_cons hA
  obtain ⟨v1, vs1, d1, ds1, p1, q1, rfl, rfl, rfl, h1, r1⟩ := trodAll_cons r0
  obtain ⟨rfl, rfl, rfl⟩ := trodAll_nil r1
  obtain rfl : args = #[v0, v1] := by cases args; simp_all
  obtain ⟨rfl, rfl⟩ := trodVars_none hV
  obtain ⟨A0, c0, x0, rfl, hc0, hm0, k0, ks0, kd0⟩ := open_texts Try.underlying28 Try.underlying9 (by kernel_rfl) (hval 0 28 v0 rfl rfl) h0
  obtain ⟨x1, rfl, rfl, rfl, k1⟩ := ChangeMaps.open_string Try.underlying9 (hval 1 9 v1 rfl rfl) h1
  have k1 : x1.data.toList.length ≤ 9223372036854775807 := by unfold maxLen at k1; simpa using k1
  clear hA0
  have hbulk := bulk_bound hk
  simp only [List.cons_append, List.nil_append, List.append_nil, Rows.uptoBulkAll] at hbulk
  have hwt := weight_le_bulk kd0
  simp only [Rows.uptoBulk] at hbulk
  refine (RecBack_any A0 c0 x0 x1.data.toList W k0 (by omega) (by omega)).mono ?_
  exact fun e W' ⟨he, hb⟩ => ⟨_, he, law_post rfl hW' rfl (by kernel_rfl) Try.underlying4 (by kernel_rfl) laidOut hb⟩

open Go.ChangeShapes Go.WideShapes Go.ChangeAt in
set_option maxRecDepth 100000 in
theorem RecBack_lifted (os : Os) (started : os.Started) (H : Type) (enc : TypeId × Value → H) (F : Stop.Interp) :
    ReturnsInHanded {} Try.checked os 6 .any ((Rows.OpenSpec.upto Rows.recBackSpec).pre6 enc Try.prog Try.f6 Rows.recBackUptoRow.domain false) (((Rows.OpenSpec.upto Rows.recBackSpec).at F).post enc Try.prog Try.f6 false true false false) := by
  refine returnsInHanded_of_cond (C := Try.checked) (s := Rows.OpenSpec.upto Rows.recBackSpec) (k := Rows.uptoSmall) rfl own started (by kernel_rfl) Try.func6
    (OpenSpec.witness (enc := enc) (C := Try.checked) (s := Rows.OpenSpec.upto Rows.recBackSpec) (k := Rows.uptoSmall) rfl false ⟨#[], #[.slice none 0 0, .string ⟨#[]⟩], []⟩ 8 (by kernel_rfl) (by kernel_rfl) (by kernel_rfl)
      (x := ([.nil, .lit (.string [])], [], [])) (by kernel_rfl) rfl (by kernel_rfl)) ?_
  intro W base args ds gs before hval hW _ hk _
  exact RecBack_contract H enc W base args ds gs before hval hW hk

theorem RecBack_holds : Rows.RecBackUptoSaid :=
  OpenClaim.holds_of_cond 6 Try.f6 rfl rfl rfl rfl rfl rfl rfl ⟨rfl, rfl, rfl, rfl, rfl⟩ rfl rfl rfl rfl rfl (by kernel_rfl) Try.func6 (by kernel_rfl)
    (of_decide_eq_true (by kernel_rfl)) (by unfold Func.isWrapper; first | (rw [if_pos (by decide +kernel)]; kernel_rfl) | (rw [if_neg (by decide +kernel)]; exact ⟨rfl, rfl⟩))
    (fun os started H enc _ F => RecBack_lifted os started H enc F)

end Go.Proofs.Ytfddhhaecfjepaa
