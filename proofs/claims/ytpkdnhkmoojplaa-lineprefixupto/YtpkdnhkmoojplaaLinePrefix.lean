/- hawserlaw15.LinePrefix, where what it is handed is small. Condition: the bound of the second form. -/
import Derived.Test.YtpkdnhkmoojplaaLineLaw
import Derived.Test.YtpkdnhkmoojplaaTexts
import Derived.Test.YtpkdnhkmoojplaaOpen
import Derived.Lib.SmallJoins
namespace Go.Proofs.Ytpkdnhkmoojplaa
open Go.RowKit Plain

theorem box3 {W : World} {b : Nat} {x y z : Value} {t : TypeId} {m : Nat × Nat} (h : W.heap[b]? = some (.cells #[x, y, z] t m)) : W.cell? ⟨b, 0, none⟩ = some x ∧ W.cell? ⟨b, 1, none⟩ = some y ∧ W.cell? ⟨b, 2, none⟩ = some z :=
  ⟨cell_of_row W b 0 _ _ _ h, cell_of_row W b 1 _ _ _ h, cell_of_row W b 2 _ _ _ h⟩
theorem row_below {W W' : World} {b : Nat} {o : Obj} (h : W.heap[b]? = some o) (hb : Below W.heap.size W W') : W'.heap[b]? = some o := by
  rw [hb.block b (Array.getElem?_eq_some_iff.1 h).1]; exact h

set_option maxHeartbeats 1000000 in
theorem LinePrefix_any (A : Option Addr) (c : Nat) (l : List (List UInt8)) (cut flip : Int) (d : Nat) (w : World) (hl : Reads w 1 A l.length (strs l)) (hbulk : weight l ≤ 1048576) (hd : d < 256) (hcut : cut ≤ 9223372036854775807) (hlc : l.length ≤ c) :
    Calls Try.prog 4 #[.slice A l.length c, .agg #[.int .i64 cut, .int .i64 flip, .int .u8 d]] w (Ret w (.bool true)) := by
  have hwl := weight_length l
  have hall63 : ∀ p ∈ l, p.length ≤ 9223372036854775807 := fun p hp => by have := weight_mem hp; omega
  have hfr := frames_weight l 0
  have hfw : (frames 0 l).length ≤ 35184372088 := by unfold weight at hbulk; omega
  have hall : ∀ p ∈ l, p.length ≤ 1048576 := fun p hp => by have := weight_mem hp; omega
  have hpk := packL_ok hall
  have hPk := fun w h => Pack_any A c l w h (by omega) (by omega) hall63
  rw [hpk] at hPk
  have hCa := fun w => Carry_any (frames 0 l) cut flip d w (by omega) hd hcut
  obtain ⟨j, hj, hpre⟩ := read_prefix l 0 cut flip d hd hall
  have hclen := carry_length (frames 0 l) cut flip d
  have hcle : (carry (frames 0 l) cut flip d).length ≤ 35184372088 := by rw [hclen]; split <;> omega
  have hR := fun w => Read_any (carry (frames 0 l) cut flip d) w (by omega) (by rw [hpre]; simp; omega)
  have htold := fun h => told_nothing (l := l) (cut := cut) (flip := flip) hd hall h
  have htwo := read_told _ 0 (carry (frames 0 l) cut flip d) (Nat.le_refl _)
  have hwhole : ((cut < 0 ∨ ((frames 0 l).length : Int) ≤ cut) ∧ (d = 0 ∨ flip < 0 ∨ ((frames 0 l).length : Int) ≤ flip)) → (readL 0 (carry (frames 0 l) cut flip d)).2 = 0 ∧ (readL 0 (carry (frames 0 l) cut flip d)).1 = l := by
    intro h
    rw [carry_whole h.1 h.2]
    have := read_frames l 0 [] hall
    rw [List.append_nil, read_nil] at this
    rw [this]
    simp
  have hallt : ∀ p ∈ l.take j, p.length ≤ 1048576 := fun p hp => hall p (List.mem_of_mem_take hp)
  have hpk2 := packL_ok hallt
  have hfl2 := frames_le (l := l) (k := j)
  have hPk2 := fun A c w h => Pack_any A c (l.take j) w h (by simp; omega) (by omega) (fun p hp => hall63 p (List.mem_of_mem_take hp))
  rw [hpk2] at hPk2
  rw [hpre] at hR htold hwhole
  have HT := Lib.hid htold
  have HW := Lib.hid hwhole
  clear htold hwhole hpre hpk hpk2 hallt hall hall63 hfr hclen
  have htwo' : (readL 0 (carry (frames 0 l) cut flip d)).2 = 0 ∨ (readL 0 (carry (frames 0 l) cut flip d)).2 = 150 := by
    rcases htwo with h | h
    · exact .inl h.1
    · exact .inr h
  clear htwo
  generalize (readL 0 (carry (frames 0 l) cut flip d)).2 = g at *
  generalize carry (frames 0 l) cut flip d = C at *
  have htl : (l.take j).length = j := by simp; omega
  have hts : strs (l.take j) = (strs l).take j := by simp [strs]
  have HTL := Lib.hid htl
  have HTS := Lib.hid hts
  generalize hF : frames 0 l = F at *
  generalize frames 0 (l.take j) = F2 at *
  have hb0 := (Below.refl w.heap.size w).alloc (Nat.le_refl _) (.cells #[.int .i64 cut, .int .i64 flip, .int .u8 d] 24)
  have hbx := heap_alloc_new w (.cells #[.int .i64 cut, .int .i64 flip, .int .u8 d] 24)
  have HBX := Lib.hid hbx
  have HHF := Lib.hid hF
  clear hbx htl hts hF
  go_enter Try.func4, Try.ntmps4
  go_wp2_with (fail)
  refine (awake_any _).mono ?_
  rintro e w1 ⟨rfl, hb1⟩
  have hbx1 := row_below HBX.out hb1
  have hl1 := (hl.below hb0).below (hb1.mono (by simp))
  have hb := hb0.trans (hb1.mono (by simp))
  clear hb1 hb0 HBX hl
  go_wp2_with (fail)
  refine (hPk _ hl1).mono ?_
  rintro e w2 ⟨rfl, hb2⟩
  have hbx2 := row_below hbx1 hb2
  have hl2 := hl1.below hb2
  replace hb := hb.trans (hb2.mono hb.size)
  clear hb2 hl1 hbx1
  obtain ⟨c0, c1, c2⟩ := box3 hbx2
  go_wp2_with (fail)
  refine (hCa _).mono ?_
  rintro e w3 ⟨rfl, hb3⟩
  have hbx3 := row_below hbx2 hb3
  have hl3 := hl2.below hb3
  replace hb := hb.trans (hb3.mono hb.size)
  clear hb3 hl2 hbx2 c0 c1 c2
  go_wp2_with (fail)
  refine (hR _).mono ?_
  rintro e w4 ⟨v4, rfl, hv4, hb4⟩
  have hbx4 := row_below hbx3 hb4
  have hl4 := hl3.below hb4
  replace hb := hb.trans (hb4.mono hb.size)
  clear hb4 hl3 hbx3
  obtain ⟨A4, c4, rfl, hc4, hm4, hr4⟩ := hv4
  have hr4' := hl4.take (k := j) hj
  rw [Nat.mul_one, ← HTS.out] at hr4'
  have hr4'' : Reads w4 1 A (l.take j).length (strs (l.take j)) := by rw [HTL.out]; exact hr4'
  have hTx := Texts_any A4 A c4 c (l.take j) (l.take j) w4 hr4 hr4'' (by have := HTL.out; omega) (by have := HTL.out; omega)
  clear hr4' hr4''
  rw [HTL.out] at hTx hc4 hPk2
  rw [HTL.out]
  have hji : (j : Int) ≤ l.length := by omega
  have hjc : (j : Int) ≤ c := by omega
  go_wp2_with (fail)
  refine hTx.mono ?_
  rintro e w5 ⟨rfl, hb5⟩
  have hbx5 := row_below hbx4 hb5
  have hr5 := hr4.below hb5
  replace hb := hb.trans (hb5.mono hb.size)
  rw [HTL.out] at hr5
  clear hb5 hl4 hbx4 hTx hr4
  obtain ⟨c0, c1, c2⟩ := box3 hbx5
  have hP5 := hPk2 A4 c4 w5 hr5
  clear hPk2 hPk hCa hR hbx5
  simp only [decide_true]
  have hd0 : d = 0 ∧ ((d : Int) == 0) = true ∨ d ≠ 0 ∧ ((d : Int) == 0) = false := by
    rcases Nat.eq_zero_or_pos d with h | h
    · subst h; exact .inl ⟨rfl, rfl⟩
    · exact .inr ⟨by omega, by simp; omega⟩
  by_cases hw : (cut < 0 ∨ (F.length : Int) ≤ cut) ∧ (d = 0 ∨ flip < 0 ∨ (F.length : Int) ≤ flip)
  · obtain ⟨hg, hjl⟩ := HW.out hw
    subst hg
    have hjl' : j = l.length := by have := HTL.out; rw [hjl] at this; exact this.symm
    have hjB : ((j : Int) == (l.length : Int)) = true := by rw [hjl']; simp
    clear hjl hjl'
    have h1 : cut < 0 ∨ 0 ≤ cut ∧ (F.length : Int) ≤ cut := by omega
    have h2 : ((d : Int) == 0) = true ∨ ((d : Int) == 0) = false ∧ flip < 0 ∨ ((d : Int) == 0) = false ∧ 0 ≤ flip ∧ (F.length : Int) ≤ flip := by
      rcases hd0 with ⟨h, hB⟩ | ⟨h, hB⟩
      · exact .inl hB
      · rcases Int.lt_or_le flip 0 with hf | hf
        · exact .inr (.inl ⟨hB, hf⟩)
        · exact .inr (.inr ⟨hB, hf, by omega⟩)
    clear hd0 hw HT HW
    rcases h1 with h1 | ⟨h1, h1'⟩ <;> rcases h2 with h2 | ⟨h2, h3⟩ | ⟨h2, h3, h4⟩ <;> (go_wp2_with (fail); go_ret; exact ⟨rfl, hb⟩)
  · have h1 : 0 ≤ cut ∧ cut < F.length ∨ cut < 0 ∧ 0 ≤ flip ∧ flip < F.length ∨ 0 ≤ cut ∧ (F.length : Int) ≤ cut ∧ 0 ≤ flip ∧ flip < F.length := by omega
    have hT := HT.out hw
    rcases htwo' with hg | hg
    · obtain ⟨hc, hf⟩ := hT hg
      subst hg
      have hcF : 0 ≤ cut ∧ cut < F.length := by omega
      obtain ⟨e1, e2⟩ := hcF
      have hcB : (cut == (F2.length : Int)) = true := by rw [hc]; simp
      have h2 : ((d : Int) == 0) = true ∨ ((d : Int) == 0) = false ∧ flip < 0 ∨ ((d : Int) == 0) = false ∧ 0 ≤ flip ∧ cut ≤ flip := by
        rcases hd0 with ⟨h, hB⟩ | ⟨h, hB⟩
        · exact .inl hB
        · rcases Int.lt_or_le flip 0 with hf' | hf'
          · exact .inr (.inl ⟨hB, hf'⟩)
          · exact .inr (.inr ⟨hB, hf', by omega⟩)
      clear hd0 hw HT HW h1 hT hc hf
      go_wp2_with (fail)
      refine hP5.mono ?_
      rintro e w6 ⟨rfl, hb6⟩
      have k0 : w6.cell? ⟨w.heap.size, 0, none⟩ = some (.int .i64 cut) := by rw [hb6.cell (World.block_lt_of_cell? _ _ c0)]; exact c0
      have k1 : w6.cell? ⟨w.heap.size, 1, none⟩ = some (.int .i64 flip) := by rw [hb6.cell (World.block_lt_of_cell? _ _ c1)]; exact c1
      have k2 : w6.cell? ⟨w.heap.size, 2, none⟩ = some (.int .u8 d) := by rw [hb6.cell (World.block_lt_of_cell? _ _ c2)]; exact c2
      replace hb := hb.trans (hb6.mono hb.size)
      rcases h2 with h2 | ⟨h2, h3⟩ | ⟨h2, h3, h4⟩ <;> (go_wp2_with (fail); go_ret; exact ⟨rfl, hb⟩)
    · subst hg
      have h2 : 0 ≤ cut ∧ cut < F.length ∨ cut < 0 ∧ ((d : Int) == 0) = false ∧ 0 ≤ flip ∧ flip < F.length ∨ 0 ≤ cut ∧ (F.length : Int) ≤ cut ∧ ((d : Int) == 0) = false ∧ 0 ≤ flip ∧ flip < F.length := by
        rcases hd0 with ⟨h, hB⟩ | ⟨h, hB⟩
        · exact .inl (by omega)
        · rcases h1 with h | ⟨a, b⟩ | ⟨a, b, c⟩
          · exact .inl h
          · exact .inr (.inl ⟨a, hB, b⟩)
          · exact .inr (.inr ⟨a, b, hB, c⟩)
      clear hd0 hw HT HW h1 hT
      rcases h2 with ⟨e1, e2⟩ | ⟨e1, e2, e3, e4⟩ | ⟨e1, e2, e3, e4, e5⟩ <;> (go_wp2_with (fail); go_ret; exact ⟨rfl, hb⟩)

open Go.ChangeShapes Go.WideShapes Go.ChangeAt in
/-- What the walk gives, for every argument. -/
theorem LinePrefix_contract (H : Type) (enc : TypeId × Value → H) (W : World) (base : Nat) (args : Array Value) (ds gs : List (DataW H)) (before : List MemPlace)
    (hval : ∀ (j : Nat) t v, Try.f4.params[j]? = some t → args[j]? = some v → Value.okWide Try.prog W .any base t v)
    (hW : DataW.Whole enc Try.prog Try.f4.params.toList Rows.linePrefixSpec.vars false W args.toList ds gs before) (hk : Rows.uptoSmall H (ds ++ gs) = true) :
    Calls Try.prog 4 args W fun e W' => ∃ v, e = .returned v ∧ Rows.linePrefixSpec.post enc Try.prog Try.f4 false true false false W args v W' := by
  have hW' := hW
  obtain ⟨p, q, hA0, hV, rfl, hfz, hnd⟩ := hW
  have hA : DataW.TrodAll enc Try.prog W 0 (fun _ => true) true Try.f4.params.toList args.toList ds p := hA0
  rw [Try.params4] at hA hval
  obtain ⟨v0, vs0, d0, ds0, p0, q0, hargs, rfl, rfl, h0, r0⟩ := trodAll_cons hA
  obtain ⟨v1, vs1, d1, ds1, p1, q1, rfl, rfl, rfl, h1, r1⟩ := trodAll_cons r0
  obtain ⟨rfl, rfl, rfl⟩ := trodAll_nil r1
  obtain rfl : args = #[v0, v1] := by cases args; simp_all
  obtain ⟨rfl, rfl⟩ := trodVars_none hV
  obtain ⟨A0, c0, x0, rfl, hc0, hm0, k0, ks0, kd0⟩ := open_texts Try.underlying22 Try.underlying9 (by kernel_rfl) (hval 0 22 v0 rfl rfl) h0
  obtain ⟨xa1, xb1, xc1, ya1, yb1, yc1, fu1, rfl, rfl, rfl, ha1, hb1, hc1⟩ := Go.Joins.open_agg3 Try.underlying24 (by kernel_rfl) (by kernel_rfl) (hval 1 24 v1 rfl rfl) h1
  obtain ⟨a1, ea1, rfl, ka1⟩ := DataW.trod_int Try.underlying3 ha1
  obtain ⟨b1, eb1, rfl, kb1⟩ := DataW.trod_int Try.underlying3 hb1
  obtain ⟨c1, ec1, rfl, kc1⟩ := DataW.trod_int Try.underlying5 hc1
  simp only [List.cons.injEq, and_true] at ea1 eb1 ec1
  subst ea1 eb1 ec1
  have la1 := bounds_i64 ka1
  have lb1 := bounds_i64 kb1
  have lc1 := bounds_u8 kc1
  clear hA0
  have hbulk := bulk_bound hk
  simp only [List.cons_append, List.nil_append, List.append_nil, Rows.uptoBulkAll] at hbulk
  simp only [Rows.uptoBulk] at hbulk
  have hwb := weight_le_bulk kd0
  obtain ⟨n1, rfl⟩ := Int.eq_ofNat_of_zero_le (show 0 ≤ c1 by omega)
  refine (LinePrefix_any A0 c0 x0 a1 b1 n1 W k0 (by omega) (by omega) (by omega) hc0).mono ?_
  exact fun e W' ⟨he, hb⟩ => ⟨_, he, law_post rfl hW' rfl (by kernel_rfl) Try.underlying4 (by kernel_rfl) laidOut hb⟩

open Go.ChangeShapes Go.WideShapes Go.ChangeAt in
set_option maxRecDepth 100000 in
theorem LinePrefix_lifted (os : Os) (started : os.Started) (H : Type) (enc : TypeId × Value → H) (F : Stop.Interp) :
    ReturnsInHanded {} Try.checked os 4 .any ((Rows.OpenSpec.upto Rows.linePrefixSpec).pre6 enc Try.prog Try.f4 Rows.linePrefixUptoRow.domain false) (((Rows.OpenSpec.upto Rows.linePrefixSpec).at F).post enc Try.prog Try.f4 false true false false) := by
  refine returnsInHanded_of_cond (C := Try.checked) (s := Rows.OpenSpec.upto Rows.linePrefixSpec) (k := Rows.uptoSmall) rfl own started (by kernel_rfl) Try.func4
    (OpenSpec.witness (enc := enc) (C := Try.checked) (s := Rows.OpenSpec.upto Rows.linePrefixSpec) (k := Rows.uptoSmall) rfl false ⟨#[], #[.slice none 0 0, .agg #[.int .i64 0, .int .i64 0, .int .u8 0]], []⟩ 8 (by kernel_rfl) (by kernel_rfl) (by kernel_rfl)
      (x := ([.nil, .agg [.lit (.int .i64 0), .lit (.int .i64 0), .lit (.int .u8 0)]], [], [])) (by kernel_rfl) rfl (by kernel_rfl)) ?_
  intro W base args ds gs before hval hW _ hk _
  exact LinePrefix_contract H enc W base args ds gs before hval hW hk

theorem LinePrefix_holds : Rows.LinePrefixUptoSaid :=
  OpenClaim.holds_of_cond 4 Try.f4 rfl rfl rfl rfl rfl rfl rfl ⟨rfl, rfl, rfl, rfl, rfl⟩ rfl rfl rfl rfl rfl (by kernel_rfl) Try.func4 (by kernel_rfl)
    (of_decide_eq_true (by kernel_rfl)) (by unfold Func.isWrapper; first | (rw [if_pos (by decide +kernel)]; kernel_rfl) | (rw [if_neg (by decide +kernel)]; exact ⟨rfl, rfl⟩))
    (fun os started H enc _ F => LinePrefix_lifted os started H enc F)
end Go.Proofs.Ytpkdnhkmoojplaa
