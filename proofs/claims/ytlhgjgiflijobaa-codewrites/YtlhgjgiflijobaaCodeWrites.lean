/- hawserlaw03.CodeWrites: numbers, texts and flags are written as the document says. -/
import Derived.Test.YtlhgjgiflijobaaCodeRef
import Derived.Test.YtlhgjgiflijobaaJoin
import Derived.Test.YtlhgjgiflijobaaOpen3
import Derived.SizedLaws
namespace Go.Proofs.Ytlhgjgiflijobaa
open Go.RowKit Plain

set_option maxHeartbeats 400000 in
theorem All_any (A : Option Addr) (c : Nat) (l : List (List UInt8)) (w : World) (hl : Reads w 1 A l.length (strs l)) (hN : l.length ≤ 140737488355328) (hcap : l.length ≤ c) (hc63 : c ≤ 9223372036854775807)
    (hlen : (Lib.join l []).length ≤ 140737488355328) :
    Calls Try.prog 21 #[.slice A l.length c] w (Ret w (.string ⟨(Lib.join l []).toArray⟩)) := by
  go_enter Try.func21, Try.ntmps21
  go_wp2_with (fail)
  refine (strJoin_any A c l [] w hl hN hcap hc63 hlen).mono ?_
  rintro e w1 ⟨rfl, hb1⟩
  go_wp2_with (fail)
  go_ret
  exact ⟨rfl, hb1⟩

theorem join_nilsep (l : List (List UInt8)) : Lib.join l [] = l.flatten := by
  cases l with
  | nil => rfl
  | cons x r => rw [Lib.join_cons]; simp [Lib.joinTail]

set_option maxRecDepth 100000 in
set_option maxHeartbeats 4000000 in
theorem CodeWrites_body (n : Int) (x : List UInt8) (s : List UInt8) (b : Bool) (w : World) (hn : -9223372036854775808 ≤ n) (hn2 : n ≤ 9223372036854775807) (hs : s.length ≤ 140737488351232) (hx : x.length ≤ 9)
    (h1 : ∀ w, Calls Try.prog 8 #[.int .i64 n] w (Ret w (.string ⟨x.toArray⟩))) (h2 : ∀ w, Calls Try.prog 18 #[.int .i64 n] w (Ret w (.string ⟨x.toArray⟩))) :
    Calls Try.prog 6 #[.int .i64 n, .string ⟨s.toArray⟩, .bool b] w (Ret w (.bool true)) := by
  go_enter Try.func6, Try.ntmps6
  go_wp2_with (fail)
  have htl : (textB s).length ≤ s.length + 9 := by
    have := numF_length 9 s.length
    simp only [textB, List.length_append, numB]; omega
  have hfl : (flagB b).length = 1 := by cases b <;> rfl
  have hT := fun w => Text_any s w (by omega)
  have hT2 := fun w => RefText_any s w (by omega)
  have hF := fun w => Flag_any b w
  have hF2 := fun w => RefFlag_any b w
  generalize textB s = y at *
  generalize flagB b = z at *
  have hA : ∀ (W : World) (B : Nat) (hb : W.heap[B]? = some (.cells #[.string ⟨x.toArray⟩, .string ⟨y.toArray⟩, .string ⟨z.toArray⟩] 9 (0, 0))), Calls Try.prog 21 #[.slice (some ⟨B, 0, none⟩) 3 3] W (Ret W (.string ⟨(x ++ (y ++ z)).toArray⟩)) := by
    intro W B hb
    have h := All_any (some ⟨B, 0, none⟩) 3 [x, y, z] W ⟨rfl, fun _ => ⟨_, rfl, fun j u hu => by
      rw [show (⟨B, 0, none⟩ : Addr).add j = ⟨B, j, none⟩ by unfold Addr.add; split <;> simp_all, cell_of_row _ _ _ _ _ _ hb]
      simpa [strs, strV] using hu⟩⟩ (by simp) (by simp) (by omega) (by rw [join_nilsep]; simp; omega)
    rw [join_nilsep] at h
    simpa using h
  have hA0 := fun w => All_any none 0 [] w (Reads.nil _ _ _) (by simp) (by simp) (by omega) (by simp [join_nilsep])
  rw [join_nilsep] at hA0
  simp only [List.flatten_nil] at hA0
  refine (Ret.quiet (Below.refl _ _) (awake_any _)).mono ?_
  rintro e w1 ⟨rfl, hb1⟩
  go_wp2_with (fail)
  refine (Ret.quiet (hb1) (h1 _)).mono ?_
  rintro e w2 ⟨rfl, hb2⟩
  go_wp2_with (fail)
  refine (Ret.quiet (hb2) (hT _)).mono ?_
  rintro e w3 ⟨rfl, hb3⟩
  go_wp2_with (fail)
  refine (Ret.quiet (hb3) (hF _)).mono ?_
  rintro e w4 ⟨rfl, hb4⟩
  go_wp2_with (fail)
  refine (Ret.quiet (hb4) (h2 _)).mono ?_
  rintro e w5 ⟨rfl, hb5⟩
  go_wp2_with (fail)
  refine (Ret.quiet (hb5) (hT2 _)).mono ?_
  rintro e w6 ⟨rfl, hb6⟩
  go_wp2_with (fail)
  refine (Ret.quiet (hb6) (hF2 _)).mono ?_
  rintro e w7 ⟨rfl, hb7⟩
  go_wp2_with (fail)
  refine (Ret.quiet (hb7.alloc hb7.size _) (hA _ _ (heap_alloc_new w7 _))).mono ?_
  rintro e w8 ⟨rfl, hb8⟩
  go_wp2_with (fail)
  refine (Ret.quiet hb8 (hA0 _)).mono ?_
  rintro e w9 ⟨rfl, hb9⟩
  go_wp2_with (fail)
  go_ret
  exact ⟨rfl, hb9⟩

theorem CodeWrites_any (n : Int) (s : List UInt8) (b : Bool) (w : World) (hn : -9223372036854775808 ≤ n) (hn2 : n ≤ 9223372036854775807) (hs : s.length ≤ 140737488351232) :
    Calls Try.prog 6 #[.int .i64 n, .string ⟨s.toArray⟩, .bool b] w (Ret w (.bool true)) := by
  by_cases h : n < 0
  · exact CodeWrites_body n [] s b w hn hn2 hs (by simp) (fun w => Num_neg n w h) (fun w => RefNum_neg n w h)
  · obtain ⟨m, rfl⟩ := Int.eq_ofNat_of_zero_le (by omega : 0 ≤ n)
    exact CodeWrites_body m (numB m) s b w hn hn2 hs (numF_length 9 _) (fun w => Num_any m w (by omega)) (fun w => RefNum_any m w (by omega))

open Go.ChangeShapes Go.WideShapes Go.ChangeAt in
/-- What the walk gives, for every argument. -/
theorem CodeWrites_contract (H : Type) (enc : TypeId × Value → H) (W : World) (base : Nat) (args : Array Value) (ds gs : List (DataW H)) (before : List MemPlace)
    (hval : ∀ (j : Nat) t v, Try.f6.params[j]? = some t → args[j]? = some v → Value.okWide Try.prog W .any base t v)
    (hW : DataW.Whole enc Try.prog Try.f6.params.toList Rows.codeWritesSpec.vars false W args.toList ds gs before) (hsz : (DataW.weightsEach Try.prog (Try.f6.params.toList ++ Rows.codeWritesSpec.plain.varTypes Try.prog) (ds ++ gs)).all (· ≤ reachBytes) = true) :
    Calls Try.prog 6 args W fun e W' => ∃ v, e = .returned v ∧ Rows.codeWritesSpec.post enc Try.prog Try.f6 false true false false W args v W' := by
  have hW' := hW
  obtain ⟨p, q, hA0, hV, rfl, hfz, hnd⟩ := hW
  have hA : DataW.TrodAll enc Try.prog W 0 (fun _ => true) true Try.f6.params.toList args.toList ds p := hA0
  rw [Try.params6] at hA hval hsz
  obtain ⟨v0, vs0, d0, ds0, p0, q0, hargs, rfl, rfl, h0, r0⟩ := trodAll_cons hA
  obtain ⟨v1, vs1, d1, ds1, p1, q1, rfl, rfl, rfl, h1, r1⟩ := trodAll_cons r0
  obtain ⟨v2, vs2, d2, ds2, p2, q2, rfl, rfl, rfl, h2, r2⟩ := trodAll_cons r1
  obtain ⟨rfl, rfl, rfl⟩ := trodAll_nil r2
  obtain rfl : args = #[v0, v1, v2] := by cases args; simp_all
  obtain ⟨rfl, rfl⟩ := trodVars_none hV
  obtain ⟨x0, rfl, rfl, rfl, k0⟩ := open_int Try.underlying3 (hval 0 3 v0 rfl rfl) h0
  have k0 := bounds_i64 k0
  obtain ⟨x1, rfl, rfl, rfl, k1⟩ := ChangeMaps.open_string Try.underlying9 (hval 1 9 v1 rfl rfl) h1
  have k1 : x1.data.toList.length ≤ 9223372036854775807 := by unfold maxLen at k1; simpa using k1
  obtain ⟨x2, rfl, rfl, rfl⟩ := open_bool Try.underlying4 (hval 2 4 v2 rfl rfl) h2
  clear hA0
  have hs0 := sized_string hsz (j := 1) rfl rfl
  refine (CodeWrites_any x0 x1.data.toList x2 W (by omega) (by omega) (by simpa [reachBytes] using hs0)).mono ?_
  exact fun e W' ⟨he, hb⟩ => ⟨_, he, law_post rfl hW' rfl (by kernel_rfl) Try.underlying4 (by kernel_rfl) laidOut hb⟩

open Go.ChangeShapes Go.WideShapes Go.ChangeAt in
set_option maxRecDepth 100000 in
theorem CodeWrites_lifted (os : Os) (started : os.Started) (H : Type) (enc : TypeId × Value → H) :
    ReturnsInHanded {} Try.checked os 6 .any (Rows.codeWritesSpec.pre6 enc Try.prog Try.f6 Rows.codeWritesRow.domain false) (Rows.codeWritesSpec.post enc Try.prog Try.f6 false true false false) := by
  refine returnsInHanded_of_change_sized (C := Try.checked) own started (by kernel_rfl) Try.func6
    (ChangeSpec.witness6 (enc := enc) (C := Try.checked) false ⟨#[], #[.int .i64 0, .string ⟨#[]⟩, .bool false], []⟩ 8 (by kernel_rfl) (by kernel_rfl) (by kernel_rfl) (by kernel_rfl)) ?_
  intro W base args ds gs before hval hW _ hsz _
  exact CodeWrites_contract H enc W base args ds gs before hval hW hsz

theorem CodeWrites_holds : Rows.CodeWritesSaid :=
  OpenClaim.holds_of_wide 6 Try.f6 rfl rfl rfl rfl rfl rfl rfl ⟨rfl, rfl, rfl, rfl, rfl⟩ rfl rfl rfl rfl rfl (by kernel_rfl) Try.func6 (by kernel_rfl)
    (of_decide_eq_true (by kernel_rfl)) (by unfold Func.isWrapper; first | (rw [if_pos (by decide +kernel)]; kernel_rfl) | (rw [if_neg (by decide +kernel)]; exact ⟨rfl, rfl⟩))
    (fun os started H enc _ => CodeWrites_lifted os started H enc)
end Go.Proofs.Ytlhgjgiflijobaa
