/- hawserlaw16.MuxFrames: a frame's bytes are the document's, there and back. No condition. -/
import Derived.Test.YtknoedlelmflhaaMuxCode
import Derived.Test.YtknoedlelmflhaaPlain03c
import Derived.Test.YtknoedlelmflhaaOpen2
import Derived.SizedLaws
import Derived.Lib.SmallJoins
import Derived.Deep.DeepCutAuto
import Derived.Test.YtknoedlelmflhaaTrod
namespace Go.Proofs.Ytknoedlelmflhaa
open Go.RowKit Plain

theorem pass_text2 (t R : List UInt8) (ht : t.length ≤ 65536) : passText 65536 t.length (t ++ R) = (R, 0) := by
  unfold passText
  rw [if_neg (by omega), if_neg (by rw [List.length_append]; omega)]; simp
theorem dec_enc (c a : Nat) (t : List UInt8) (l : Bool) (hc : c < 9223372036854775808) (ha : a < 9223372036854775808) (ht : t.length ≤ 65536) : decB (numB c ++ numB a ++ textB t ++ flagB l) = ((c, a, t, l), 0) := by
  have e1 : takeR passNum (numB c ++ numB a ++ textB t ++ flagB l, 0) = (c, (numB a ++ textB t ++ flagB l, 0)) := by
    rw [List.append_assoc, List.append_assoc, ← List.append_assoc (numB a)]; exact back_num hc _
  have e2 : takeR passNum (numB a ++ textB t ++ flagB l, 0) = (a, (textB t ++ flagB l, 0)) := by
    rw [List.append_assoc]; exact back_num ha _
  have e3 : takeR (passText 65536) (textB t ++ flagB l, 0) = (t.length, (flagB l, 0)) := by
    unfold textB; rw [List.append_assoc]; exact takeR_ok (numR_numB (by omega) _) (pass_text2 t _ ht)
  have e4 : textR 65536 (textB t ++ flagB l, 0) = t := by
    unfold textB; rw [List.append_assoc]; simp [textR, numR_numB (show t.length < 9223372036854775808 by omega), pass_text2 t _ ht]
  have e5 : flagR (flagB l, 0) = (l, ([], 0)) := by have := back_flag l []; simpa using this
  unfold decB
  simp only [e1, e2, e3, e4, e5]
  rfl
theorem takeR_keep {pass : Nat → List UInt8 → List UInt8 × Nat} {st : St} (h : st.2 ≠ 0) : (takeR pass st).2 = st := by
  obtain ⟨s, f⟩ := st
  rw [takeR_bad h]
theorem flagR_keep {st : St} (h : st.2 ≠ 0) : (flagR st).2 = st := by
  unfold flagR; rw [if_pos h]
theorem endR_keep {st : St} (h : st.2 ≠ 0) : endR st ≠ 0 := by
  unfold endR
  rw [if_neg (fun e => h e.1)]; exact h
theorem dec_back (s : List UInt8) : (((decB s).2 = 0 ∧ frameB ((decB s).1.1 : Nat) ((decB s).1.2.1 : Nat) (decB s).1.2.2.1 (decB s).1.2.2.2 = s) ∨ (decB s).2 = 160) ∧ (decB s).1.1 < 9223372036854775808 ∧ (decB s).1.2.1 < 9223372036854775808 ∧ (decB s).1.2.2.1.length ≤ s.length := by
  obtain ⟨p1, b1⟩ := step_num s
  unfold decB
  generalize takeR passNum (s, 0) = r1 at *
  obtain ⟨n1, s1, f1⟩ := r1
  simp only at p1 b1 ⊢
  rcases p1 with ⟨hf, -⟩ | ⟨hf, hs, -⟩
  · rw [takeR_keep (st := (s1, f1)) hf, takeR_keep (st := (s1, f1)) hf, flagR_keep (st := (s1, f1)) hf, if_neg (endR_keep (st := (s1, f1)) hf)]
    exact ⟨.inr rfl, by simp, by simp, by simp⟩
  simp only at hf hs
  subst hf
  obtain ⟨p2, b2⟩ := step_num s1
  generalize takeR passNum (s1, 0) = r2 at *
  obtain ⟨n2, s2, f2⟩ := r2
  simp only at p2 b2 ⊢
  rcases p2 with ⟨hf, -⟩ | ⟨hf, hs2, -⟩
  · rw [takeR_keep (st := (s2, f2)) hf, flagR_keep (st := (s2, f2)) hf, if_neg (endR_keep (st := (s2, f2)) hf)]
    exact ⟨.inr rfl, by simp, by simp, by simp⟩
  simp only at hf hs2
  subst hf
  obtain ⟨p3, b3⟩ := step_text 65536 s2
  generalize textR 65536 (s2, 0) = t at *
  generalize takeR (passText 65536) (s2, 0) = r3 at *
  obtain ⟨n3, s3, f3⟩ := r3
  simp only at p3 b3 ⊢
  rcases p3 with ⟨hf, -⟩ | ⟨hf, hs3, -⟩
  · rw [flagR_keep (st := (s3, f3)) hf, if_neg (endR_keep (st := (s3, f3)) hf)]
    exact ⟨.inr rfl, by simp, by simp, by simp⟩
  simp only at hf hs3
  subst hf
  have p4 := step_flag s3
  generalize flagR (s3, 0) = r4 at *
  obtain ⟨b4, s4, f4⟩ := r4
  simp only at p4 ⊢
  rcases p4 with ⟨hf, -⟩ | ⟨hf, hs4, -⟩
  · rw [if_neg (endR_keep (st := (s4, f4)) hf)]
    exact ⟨.inr rfl, by simp, by simp, by simp⟩
  simp only at hf hs4
  subst hf
  by_cases he : endR (s4, 0) = 0
  · rw [if_pos he]
    have h4 : s4 = [] := by
      unfold endR at he
      by_cases hx : s4 = []
      · exact hx
      · rw [if_pos ⟨rfl, hx⟩] at he; cases he
    refine ⟨.inl ⟨rfl, ?_⟩, b1, b2, ?_⟩
    · unfold frameB
      rw [if_neg (by simp only; omega)]
      simp only [Int.toNat_natCast]
      rw [hs, hs2, hs3, hs4, h4]; simp
    · show t.length ≤ s.length
      have := congrArg List.length hs
      have := congrArg List.length hs2
      simp at *; omega
  · rw [if_neg he]
    exact ⟨.inr rfl, by simp, by simp, by simp⟩

set_option maxRecDepth 100000 in
set_option maxHeartbeats 4000000 in
theorem MuxFrames_any (c a : Int) (t : List UInt8) (l : Bool) (s : List UInt8) (w : World) (hc : -9223372036854775808 ≤ c ∧ c ≤ 9223372036854775807) (ha : -9223372036854775808 ≤ a ∧ a ≤ 9223372036854775807) (ht : t.length ≤ 140737488351232) (hs : s.length ≤ 140737488351232) :
    Calls Try.prog 5 #[frmV c a t l, .string ⟨s.toArray⟩] w (Ret w (.bool true)) := by
  have hE := fun W => Encode_any c a t l W hc.2 ha.2 ht
  have hE2 := fun W => RefEncode_any c a t l W hc.2 ha.2 ht
  have hD := fun W => Decode_any s W (by omega)
  have hD2 := fun W => RefDecode_any s W (by omega)
  obtain ⟨hback, d1, d2, d3⟩ := dec_back s
  unfold decV at hD hD2
  rcases hdec : decB s with ⟨⟨n1, n2, t2, l2⟩, e⟩
  rw [hdec] at hD hD2 hback d1 d2 d3
  simp only at hD hD2 hback d1 d2 d3
  have hG := fun W => Encode_any (n1 : Nat) (n2 : Nat) t2 l2 W (by omega) (by omega) (by omega)
  have hx := heap_alloc_new w (.cells #[.int .i64 c, .int .i64 a, .string ⟨t.toArray⟩, .bool l] 37)
  have hb0 := below_alloc w (.cells #[.int .i64 c, .int .i64 a, .string ⟨t.toArray⟩, .bool l] 37)
  have HX := Lib.hid hx
  have HBK := Lib.hid hback
  have HCA := Lib.hid (And.intro hc ha)
  unfold frmV at *
  clear hx hback d1 d2 d3 hc ha hdec
  go_enter Try.func5, Try.ntmps5
  go_wp2_with (fail)
  refine (awake_any _).mono ?_
  rintro e1 w1 ⟨rfl, hb1⟩
  have hx1 : w1.heap[w.heap.size]? = some (.cells #[.int .i64 c, .int .i64 a, .string ⟨t.toArray⟩, .bool l] 37 (0, 0)) := by rw [hb1.block _ (by simp)]; exact HX.out
  have B1 := hb0.trans (hb1.mono hb0.size)
  have HX1 := Lib.hid hx1
  clear hb1 hb0
  go_wp2_with (refine wpList_load_row rfl 37 _ rfl w.heap.size rfl 37 _ (0, 0) _ HX1.out Try.underlying37 rfl infoFrame ?_)
  refine (hE _).mono ?_
  rintro e2 w2 ⟨rfl, hb2⟩
  go_wp2_with (fail)
  refine (hD _).mono ?_
  rintro e3 w3 ⟨rfl, hb3⟩
  have B3 := (B1.trans (hb2.mono B1.size)).trans (hb3.mono (B1.trans (hb2.mono B1.size)).size)
  have hx3 := (hb3.block _ (Nat.lt_of_lt_of_le (lt_of_heap HX1.out) hb2.size)).trans ((hb2.block _ (lt_of_heap HX1.out)).trans HX1.out)
  have HX3 := Lib.hid hx3
  clear hb2 hb3 hx3 hx1 B1
  go_wp2_with (fail)
  obtain ⟨w4, hw4⟩ : ∃ w4, w3.alloc (.cells #[.int .i64 (n1 : Nat), .int .i64 (n2 : Nat), .string ⟨t2.toArray⟩, .bool l2] 37) = w4 := ⟨_, rfl⟩
  have hx4 : w4.heap[w.heap.size]? = some (.cells #[.int .i64 c, .int .i64 a, .string ⟨t.toArray⟩, .bool l] 37 (0, 0)) := by rw [← hw4]; exact heap_old' HX3.out
  have hg4 : w4.heap[w3.heap.size]? = some (.cells #[.int .i64 (n1 : Nat), .int .i64 (n2 : Nat), .string ⟨t2.toArray⟩, .bool l2] 37 (0, 0)) := by rw [← hw4]; exact heap_alloc_new _ _
  have B4 : Below w.heap.size w w4 := by rw [← hw4]; exact B3.alloc B3.size _
  rw [hw4]
  refine (hD2 _).mono ?_
  rintro e5 w5 ⟨rfl, hb5⟩
  have hx5 := (hb5.block _ (lt_of_heap hx4)).trans hx4
  have hg5 := (hb5.block _ (lt_of_heap hg4)).trans hg4
  have B5 := B4.trans (hb5.mono B4.size)
  generalize w3.heap.size = gb at *
  have HX5 := Lib.hid hx5
  have HG5 := Lib.hid hg5
  have HB5 := Lib.hid B5
  clear hw4 hx4 hg4 B4 hb5 hx5 hg5 B5 B3
  go_wp2_with (first | (refine wpList_load_row rfl 37 _ rfl w.heap.size rfl 37 _ (0, 0) _ (heap_old' HX5.out) Try.underlying37 rfl infoFrame ?_))
  refine (hE2 _).mono ?_
  rintro e6 w6 ⟨rfl, hb6⟩
  have hx6 := (hb6.block _ (lt_of_heap (heap_old' HX5.out))).trans (heap_old' (o := .cells #[.int .i64 (n1 : Nat), .int .i64 (n2 : Nat), .string ⟨t2.toArray⟩, .bool l2] 37) HX5.out)
  have hg6 := (hb6.block _ (lt_of_heap (heap_old' HG5.out))).trans (heap_old' (o := .cells #[.int .i64 (n1 : Nat), .int .i64 (n2 : Nat), .string ⟨t2.toArray⟩, .bool l2] 37) HG5.out)
  have hh6 := (hb6.block _ (lt_of_heap (heap_alloc_new w5 (.cells #[.int .i64 (n1 : Nat), .int .i64 (n2 : Nat), .string ⟨t2.toArray⟩, .bool l2] 37)))).trans (heap_alloc_new w5 _)
  have B6 := (HB5.out.alloc HB5.out.size (.cells #[.int .i64 (n1 : Nat), .int .i64 (n2 : Nat), .string ⟨t2.toArray⟩, .bool l2] 37)).trans (hb6.mono (HB5.out.alloc HB5.out.size _).size)
  generalize w5.heap.size = hb at *
  have q0 := cell_of_row w6 _ 0 _ _ _ hg6
  have q1 := cell_of_row w6 _ 1 _ _ _ hg6
  have q2 := cell_of_row w6 _ 2 _ _ _ hg6
  have q3 := cell_of_row w6 _ 3 _ _ _ hg6
  have r0 := cell_of_row w6 _ 0 _ _ _ hh6
  have r1 := cell_of_row w6 _ 1 _ _ _ hh6
  have r2 := cell_of_row w6 _ 2 _ _ _ hh6
  have r3 := cell_of_row w6 _ 3 _ _ _ hh6
  simp at q0 q1 q2 q3 r0 r1 r2 r3
  have HX6 := Lib.hid hx6
  have HB6 := Lib.hid B6
  clear hx6 hg6 hh6 B6 hb6
  have hcell : ∀ W, Below w6.heap.size w6 W → W.heap[w.heap.size]? = some (.cells #[.int .i64 c, .int .i64 a, .string ⟨t.toArray⟩, .bool l] 37 (0, 0)) ∧ Below w.heap.size w W := fun W h => ⟨(h.block _ (lt_of_heap HX6.out)).trans HX6.out, HB6.out.trans (h.mono HB6.out.size)⟩
  have HCELL := Lib.hid hcell
  have HG := Lib.hid hG
  have hlen : (frameB c a t l).length ≤ 140737488355328 := by
    unfold frameB
    split
    · simp
    · have h1 := numF_length 9 c.toNat
      have h2 := numF_length 9 a.toNat
      have h3 := numF_length 9 t.length
      have h4 : (flagB l).length = 1 := by cases l <;> rfl
      simp only [List.length_append, textB, numB] at *
      omega
  have HLEN := Lib.hid hlen
  clear hcell hG hlen hE hE2 hD hD2
  rcases HBK.out with ⟨rfl, hfr⟩ | rfl
  case' inl =>
    have hG := HG.out
    rw [hfr] at hG
    clear hfr
    go_wp2_with (fail)
    refine (hG _).mono ?_
    rintro e7 w7 ⟨rfl, hb7⟩
    have HH := Lib.hid (HCELL.out w7 hb7)
    clear hG hb7
    go_upto_region 8 with fail
  case' inr =>
    have HH := Lib.hid (HCELL.out w6 (Below.refl _ _))
    go_upto_region 8 with fail
  all_goals
    clear q0 q1 q2 q3 r0 r1 r2 r3
    have q2 := cell_of_row _ _ 2 _ _ _ HH.out.1
    simp at q2
    by_cases hne : frameB c a t l = []
    case pos =>
      simp only [hne]
      go_wp2_with (fail)
      go_ret
      exact ⟨rfl, HH.out.2⟩
    case neg =>
      have hie : (frameB c a t l).isEmpty = false := by cases h : frameB c a t l with | nil => exact absurd h hne | cons => rfl
      by_cases hl : 65536 < t.length
      case pos =>
        have hl' : decide (65536 < t.length) = true := decide_eq_true hl
        clear hne
        go_wp2_with (fail)
        go_ret
        exact ⟨rfl, HH.out.2⟩
      case neg =>
        have hl' : decide (65536 < t.length) = false := decide_eq_false hl
        have hD := Decode_any (frameB c a t l)
        have hfe : frameB c a t l = numB c.toNat ++ numB a.toNat ++ textB t ++ flagB l ∧ 0 ≤ c ∧ 0 ≤ a := by
          unfold frameB at hne ⊢
          by_cases hn : c < 0 ∨ a < 0
          · rw [if_pos hn] at hne; exact absurd rfl hne
          · rw [if_neg hn]; exact ⟨rfl, by omega, by omega⟩
        have hca := HCA.out
        have hdd := dec_enc c.toNat a.toNat t l (by omega) (by omega) (by omega)
        rw [← hfe.1] at hdd
        unfold decV frmV at hD
        rw [hdd] at hD
        simp only at hD
        rw [show ((c.toNat : Nat) : Int) = c by omega, show ((a.toNat : Nat) : Int) = a by omega] at hD
        have HD := Lib.hid hD
        clear hfe hca hdd hD hne
        go_wp2_with (fail)
        refine (HD.out _ HLEN.out).mono ?_
        rintro e8 w8 ⟨rfl, hb8⟩
        have hx8 := (hb8.block _ (lt_of_heap HH.out.1)).trans HH.out.1
        have B8 := HH.out.2.trans (hb8.mono HH.out.2.size)
        have hlt8 := lt_of_heap hx8
        obtain ⟨w9, hw9⟩ : ∃ w9, w8.alloc (.cells #[.int .i64 c, .int .i64 a, .string ⟨t.toArray⟩, .bool l] 37) = w9 := ⟨_, rfl⟩
        have hx9 : w9.heap[w.heap.size]? = some (.cells #[.int .i64 c, .int .i64 a, .string ⟨t.toArray⟩, .bool l] 37 (0, 0)) := by rw [← hw9]; exact heap_old' hx8
        have hk9 : w9.heap[w8.heap.size]? = some (.cells #[.int .i64 c, .int .i64 a, .string ⟨t.toArray⟩, .bool l] 37 (0, 0)) := by rw [← hw9]; exact heap_alloc_new _ _
        have B9 : Below w.heap.size w w9 := by rw [← hw9]; exact B8.alloc B8.size _
        have HW9 := Lib.hid hw9
        have HB9 := Lib.hid B9
        have HX9 := Lib.hid hx9
        have HK9 := Lib.hid hk9
        clear hb8 hx8 B8 hlt8 hw9 hx9 hk9 B9
        go_upto_region 11 with fail
        rw [HW9.out]
        have p0 := cell_of_row _ _ 0 _ _ _ HX9.out
        have p1 := cell_of_row _ _ 1 _ _ _ HX9.out
        have p2 := cell_of_row _ _ 2 _ _ _ HX9.out
        have p3 := cell_of_row _ _ 3 _ _ _ HX9.out
        have k0 := cell_of_row _ _ 0 _ _ _ HK9.out
        have k1 := cell_of_row _ _ 1 _ _ _ HK9.out
        have k2 := cell_of_row _ _ 2 _ _ _ HK9.out
        have k3 := cell_of_row _ _ 3 _ _ _ HK9.out
        simp at p0 p1 p2 p3 k0 k1 k2 k3
        go_wp2_with (fail)
        go_ret
        exact ⟨rfl, HB9.out⟩

theorem sized_frame {H : Type} {ts : List TypeId} {ds : List (DataW H)} (h : (DataW.weightsEach Try.prog ts ds).all (· ≤ reachBytes) = true) {j : Nat} {x y v : DataW H} {l : List UInt8} (ht : ts[j]? = some 37) (hd : ds[j]? = some (.agg [x, y, .lit (.string l), v])) : l.length ≤ reachBytes := by
  have := List.all_eq_true.1 h _ (DataW.weights_mem_each ht hd l.length (by simp [DataW.weights, DataW.weightsEach, Try.underlying37]))
  simpa using this

set_option maxRecDepth 100000 in
open Go.ChangeShapes Go.WideShapes Go.ChangeAt in
/-- What the walk gives, for every argument. -/
theorem MuxFrames_contract (H : Type) (enc : TypeId × Value → H) (W : World) (base : Nat) (args : Array Value) (ds gs : List (DataW H)) (before : List MemPlace)
    (hval : ∀ (j : Nat) t v, Try.f5.params[j]? = some t → args[j]? = some v → Value.okWide Try.prog W .any base t v)
    (hW : DataW.Whole enc Try.prog Try.f5.params.toList Rows.muxFramesSpec.vars false W args.toList ds gs before) (hsz : (DataW.weightsEach Try.prog (Try.f5.params.toList ++ Rows.muxFramesSpec.plain.varTypes Try.prog) (ds ++ gs)).all (· ≤ reachBytes) = true) :
    Calls Try.prog 5 args W fun e W' => ∃ v, e = .returned v ∧ Rows.muxFramesSpec.post enc Try.prog Try.f5 false true false false W args v W' := by
  have hW' := hW
  obtain ⟨p, q, hA0, hV, rfl, hfz, hnd⟩ := hW
  have hA : DataW.TrodAll enc Try.prog W 0 (fun _ => true) true Try.f5.params.toList args.toList ds p := hA0
  rw [Try.params5] at hA hval hsz
  obtain ⟨v0, vs0, d0, ds0, p0, q0, hargs, rfl, rfl, h0, r0⟩ := trodAll_cons hA
  obtain ⟨v1, vs1, d1, ds1, p1, q1, rfl, rfl, rfl, h1, r1⟩ := trodAll_cons r0
  obtain ⟨rfl, rfl, rfl⟩ := trodAll_nil r1
  obtain rfl : args = #[v0, v1] := by cases args; simp_all
  obtain ⟨rfl, rfl⟩ := trodVars_none hV
  obtain ⟨xa0, xb0, xc0, xd0, ya0, yb0, yc0, yd0, fu0, rfl, rfl, rfl, ha0, hb0, hc0, hd0⟩ := Go.Joins.open_agg4 Try.underlying37 (by kernel_rfl) (by kernel_rfl) (hval 0 37 v0 rfl rfl) h0
  obtain ⟨a0, ea0, rfl, ka0⟩ := DataW.trod_int Try.underlying3 ha0
  obtain ⟨b0, eb0, rfl, kb0⟩ := DataW.trod_int Try.underlying3 hb0
  obtain ⟨c0, ec0, rfl, kc0⟩ := trod_str Try.underlying9 hc0
  obtain ⟨d0, ed0, rfl⟩ := DataW.trod_bool Try.underlying4 hd0
  simp only [List.cons.injEq, and_true] at ea0 eb0 ed0
  subst ea0 eb0 ec0 ed0
  have la0 := bounds_i64 ka0
  have lb0 := bounds_i64 kb0
  obtain ⟨x1, rfl, rfl, rfl, k1⟩ := ChangeMaps.open_string Try.underlying9 (hval 1 9 v1 rfl rfl) h1
  have k1 : x1.data.toList.length ≤ 9223372036854775807 := by unfold maxLen at k1; simpa using k1
  clear hA0
  have hs0 := sized_frame hsz (j := 0) rfl rfl
  have hs1 := sized_string hsz (j := 1) rfl rfl
  refine (MuxFrames_any a0 b0 c0 d0 x1.data.toList W la0 lb0 (by simpa [reachBytes] using hs0) (by simpa [reachBytes] using hs1)).mono ?_
  exact fun e W' ⟨he, hb⟩ => ⟨_, he, law_post rfl hW' rfl (by kernel_rfl) Try.underlying4 (by kernel_rfl) laidOut hb⟩

open Go.ChangeShapes Go.WideShapes Go.ChangeAt in
set_option maxRecDepth 100000 in
theorem MuxFrames_lifted (os : Os) (started : os.Started) (H : Type) (enc : TypeId × Value → H) :
    ReturnsInHanded {} Try.checked os 5 .any (Rows.muxFramesSpec.pre6 enc Try.prog Try.f5 Rows.muxFramesRow.domain false) (Rows.muxFramesSpec.post enc Try.prog Try.f5 false true false false) := by
  refine returnsInHanded_of_change_sized (C := Try.checked) own started (by kernel_rfl) Try.func5
    (ChangeSpec.witness6 (enc := enc) (C := Try.checked) false ⟨#[], #[.agg #[.int .i64 0, .int .i64 0, .string ⟨#[]⟩, .bool false], .string ⟨#[]⟩], []⟩ 8 (by kernel_rfl) (by kernel_rfl) (by kernel_rfl) (by kernel_rfl)) ?_
  intro W base args ds gs before hval hW _ hsz _
  exact MuxFrames_contract H enc W base args ds gs before hval hW hsz

theorem MuxFrames_holds : Rows.MuxFramesSaid :=
  OpenClaim.holds_of_wide 5 Try.f5 rfl rfl rfl rfl rfl rfl rfl ⟨rfl, rfl, rfl, rfl, rfl⟩ rfl rfl rfl rfl rfl (by kernel_rfl) Try.func5 (by kernel_rfl)
    (of_decide_eq_true (by kernel_rfl)) (by unfold Func.isWrapper; first | (rw [if_pos (by decide +kernel)]; kernel_rfl) | (rw [if_neg (by decide +kernel)]; exact ⟨rfl, rfl⟩))
    (fun os started H enc _ => MuxFrames_lifted os started H enc)
end Go.Proofs.Ytknoedlelmflhaa
