/- hawserlaw08.ProfReads: what texts say, and where they are refused, is the document's. The condition: the arguments' bulk (Upto). -/
import Derived.Test.YtoifnnhbejofjaaDoorBProfBaseB6
import Derived.Test.YtoifnnhbejofjaaDoorBProfBaseA9
set_option linter.unusedSimpArgs false
set_option linter.unusedVariables false

section
set_option linter.unusedVariables false
namespace Go.Proofs.YtoifnnhbejofjaaDoor
open Go.RowKit Plain

theorem info_txtP : (Tryd.prog.info? 29).map (fun i => (i.zero, i.size, i.bytes)) = some (some (.agg #[.string ByteArray.empty, .string ByteArray.empty]), 2, 32) := by kernel_rfl
theorem txtV_oneCellP (x : Txt) : ∀ u ∈ txtV x, u.oneCell' = true := by intro u hu; simp [txtV] at hu; rcases hu with rfl | rfl <;> rfl

theorem sum_lenP {α : Type} (l : List α) (f : α → Nat) (h : ∀ x ∈ l, 1 ≤ f x) : l.length ≤ (l.map f).sum := by
  induction l with
  | nil => simp
  | cons y l ih =>
    have h1 := h y (by simp)
    have h2 := ih (fun x hx => h x (by simp [hx]))
    simp only [List.length_cons, List.map_cons, List.sum_cons]
    omega

set_option maxHeartbeats 8000000 in
set_option maxRecDepth 100000 in
theorem ProfReads_any (T : List Txt) (A : Option Addr) (c : Nat) (name : List UInt8) (m : Int) (w : World) (hL : LaidP w m) (hR : IsRows w 2 A (T.map txtV)) (hl : T.length ≤ 4294967296) (hx : ∀ x ∈ T, x.text.length ≤ 9223372036854775807) :
    Calls Tryd.prog 3 #[.slice A T.length c, .string ⟨name.toArray⟩] w (Ret w (.bool true)) := by
  have HAW := Lib.hid (pawake_any m w hL)
  have HLD := Lib.hid (fun W (h : Below w.heap.size w W) => hL.below h)
  have HRW := Lib.hid (fun W (h : Below w.heap.size w W) => hR.below h)
  have HXT := Lib.hid hx
  obtain ⟨it0, hi1, hy0, hy1, hy2⟩ := info_parts info_txtP
  have HIN := Lib.hid hi1
  clear hL hR hi1 hx
  go_enter Tryd.func3, Tryd.ntmps3
  go_wp2_with (fail)
  refine HAW.out.mono ?_
  rintro e w1 ⟨rfl, hw1⟩
  have HB1 := Lib.hid hw1
  have HRD := Lib.hid (rows_readsP (by decide) txtV_length (HRW.out _ hw1))
  clear hw1
  go_wp2_with (at_builtin; refine wpList_append_slice rfl _ _ 22 rfl w1.heap.size 29 it0 _ 2 32 Tryd.underlying22 HIN.out hy0 hy1 hy2 rfl (by decide) (some ⟨w1.heap.size, 0, none⟩) 0 0 [] rfl (empty_ownP w1 29 2) A T.length c (rowsE txtV T) rfl (HRD.out.below ((Below.refl _ _).alloc (Nat.le_refl _) _)) (rowsE_oneCell txtV_oneCellP T) ?x3 ?x4 ?x5 ?_)
  case x3 => unfold maxLen; omega
  case x4 => omega
  all_goals try (first | exact Nat.le_refl _ | (simp; done))
  intro Aa ca w2 hown2 hg2
  have hb2 : Below w1.heap.size w1 w2 := ((Below.refl _ _).alloc (Nat.le_refl _) _).grown hg2 (by simp) (fun k hk => by
    have hk' : w1.heap.size = k := by injection hk
    omega)
  try simp only [Nat.zero_add, List.nil_append] at hown2
  have HR2 := Lib.hid (own_rowsP txtV_length hown2 rfl)
  have HB2 := Lib.hid (HB1.out.trans (hb2.mono HB1.out.size))
  have HPA := Lib.hid (parse_any T Aa ca name m w2 (HLD.out _ HB2.out) HR2.out (by omega) HXT.out)
  have HPB := Lib.hid (fun W (h : Below w.heap.size w W) => rparse_any T A c name W (HRW.out _ h) (by omega) HXT.out)
  clear hown2 hg2 hb2 HRD HIN hy0 hy1 hy2 HAW HR2
  generalize parseP T name = r at *
  obtain ⟨q, tq, k⟩ := r
  go_wp2_with (fail)
  refine HPA.out.mono ?_
  rintro e w3 ⟨A0, c0, A1, c1, A2, c2, rfl, hp, hb⟩
  unfold pfV txtV
  dsimp only at hp ⊢
  obtain ⟨W3, hW3, hb3, hq1, hq2, hsz3⟩ := two_new (w2 := w3) (C0 := A0) (C1 := A1) (C2 := A2) (e0 := c0) (e1 := c1) (e2 := c2) (q := q) (tq := tq)
  have HW3 := Lib.hid hW3
  have HB3 := Lib.hid (HB2.out.trans ((hb.trans (hb3.mono hb.size)).mono HB2.out.size))
  have HP3 := Lib.hid (hp.below hb3)
  have HQ1 := Lib.hid hq1
  have HQ2 := Lib.hid hq2
  clear hW3 hb3 hq1 hq2 hb hp HPA
  go_upto_region 4 with (fail)
  rw [HW3.out]
  clear HW3
  go_wp2_with (fail)
  refine (HPB.out _ HB3.out).mono ?_
  rintro e w4 ⟨B0, d0, B1, d1, B2, d2, rfl, hp4, hb4⟩
  unfold pfV txtV
  dsimp only at hp4 ⊢
  obtain ⟨W4, hW4, hb4', hq3, hq4, hsz4⟩ := two_new (w2 := w4) (C0 := B0) (C1 := B1) (C2 := B2) (e0 := d0) (e1 := d1) (e2 := d2) (q := q) (tq := tq)
  have hb34 := hb4.trans (hb4'.mono hb4.size)
  have HW4 := Lib.hid hW4
  have HB4 := Lib.hid (HB3.out.trans (hb34.mono HB3.out.size))
  have HP3' := Lib.hid (HP3.out.below hb34)
  have HP4 := Lib.hid (hp4.below hb4')
  have hr1 := (hb34.block _ (by omega)).trans HQ1.out
  have hr2 := (hb34.block _ (by omega)).trans HQ2.out
  have p0 := cell_of_row _ _ 0 _ _ _ hr1
  have p1 := cell_of_row _ _ 1 _ _ _ hr1
  have p2 := cell_of_row _ _ 2 _ _ _ hr1
  have p3 := cell_of_row _ _ 3 _ _ _ hr1
  have p4 := cell_of_row _ _ 4 _ _ _ hr1
  have p5 := cell_of_row _ _ 5 _ _ _ hr1
  have p6 := cell_of_row _ _ 6 _ _ _ hr1
  have s0 := cell_of_row _ _ 0 _ _ _ hr2
  have s1 := cell_of_row _ _ 1 _ _ _ hr2
  have q0 := cell_of_row _ _ 0 _ _ _ hq3
  have q1 := cell_of_row _ _ 1 _ _ _ hq3
  have q2 := cell_of_row _ _ 2 _ _ _ hq3
  have q3 := cell_of_row _ _ 3 _ _ _ hq3
  have q4 := cell_of_row _ _ 4 _ _ _ hq3
  have q5 := cell_of_row _ _ 5 _ _ _ hq3
  have q6 := cell_of_row _ _ 6 _ _ _ hq3
  have u0 := cell_of_row _ _ 0 _ _ _ hq4
  have u1 := cell_of_row _ _ 1 _ _ _ hq4
  have HSM := Lib.hid (Same_same q A0 c0 A1 c1 A2 c2 B0 d0 B1 d1 B2 d2 W4 HP3'.out HP4.out (by
    have h1 := HP4.out.cap
    have h2 := HP4.out.len
    unfold maxLen at h2
    omega))
  have HEQ := fun W => txt_eql W tq
  unfold txtV at HEQ
  unfold pfV at HSM
  clear hW4 hb4' hq3 hq4 hb4 hp4 hb34 hr1 hr2 HPB HP3 HP3' HP4 HQ1 HQ2 HB3 HB2 HB1
  go_upto_region 5 with (fail)
  rw [HW4.out]
  clear HW4
  go_wp2_with (fail)
  refine HSM.out.mono ?_
  rintro e w5 ⟨rfl, hw5⟩
  have HB5 := Lib.hid (HB4.out.trans (hw5.mono HB4.out.size))
  clear hw5
  go_wp2_with (fail)
  go_ret
  exact ⟨rfl, HB5.out⟩


open Go.ChangeShapes Go.WideShapes Go.ChangeAt in
set_option maxRecDepth 100000 in
/-- What the walk gives, for every argument. -/
theorem ProfReads_contract (H : Type) (enc : TypeId × Value → H) (W : World) (base : Nat) (args : Array Value) (ds gs : List (DataW H)) (before : List MemPlace)
    (hval : ∀ (j : Nat) t v, Tryd.f3.params[j]? = some t → args[j]? = some v → Value.okWide Tryd.prog W .any base t v)
    (hW : DataW.Whole enc Tryd.prog Tryd.f3.params.toList Rows.profReadsSpec.vars false W args.toList ds gs before) (hL : laidMetH Tryd.prog Rows.profReadsRow.laid W) (hS : W.ShapedOpen Tryd.prog) (hk : Rows.uptoSmall H (ds ++ gs) = true) :
    Calls Tryd.prog 3 args W fun e W' => ∃ v, e = .returned v ∧ Rows.profReadsSpec.post enc Tryd.prog Tryd.f3 false true false false W args v W' := by
  have hW' := hW
  obtain ⟨p, q, hA0, hV, rfl, hfz, hnd⟩ := hW
  have hA : DataW.TrodAll enc Tryd.prog W 0 (fun _ => true) true Tryd.f3.params.toList args.toList ds p := hA0
  rw [Tryd.params3] at hA hval
  obtain ⟨v0, vs0, d0, ds0, p0, q0, hargs, rfl, rfl, h0, r0⟩ := trodAll_cons hA
  obtain ⟨v1, vs1, d1, ds1, p1, q1, rfl, rfl, rfl, h1, r1⟩ := trodAll_cons r0
  obtain ⟨rfl, rfl, rfl⟩ := trodAll_nil r1
  obtain rfl : args = #[v0, v1] := by cases args; simp_all
  obtain ⟨rfl, rfl⟩ := trodVars_none hV
  obtain ⟨A0, c0, x0, rfl, hc0, hm0, ks0, kd0, kw0⟩ := open_txts (hval 0 22 v0 rfl rfl) h0
  obtain ⟨x1, rfl, rfl, rfl, k1⟩ := ChangeMaps.open_string Tryd.underlying9 (hval 1 9 v1 rfl rfl) h1
  have k1 : x1.data.toList.length ≤ 9223372036854775807 := by unfold maxLen at k1; simpa using k1
  clear hA0
  have hbulk := bulk_bound hk
  simp only [List.cons_append, List.nil_append, List.append_nil, Rows.uptoBulkAll] at hbulk
  obtain ⟨m, hm⟩ := laid_ofP hL hS
  have hsl := sum_lenP x0 (fun o => o.name.length + o.text.length + 1) (fun x _ => by omega)
  refine (ProfReads_any x0 A0 c0 x1.data.toList m W hm ks0 (by unfold maxLen at *; omega) (fun x hx => (kd0 x hx).2)).mono ?_
  exact fun e W' ⟨he, hb⟩ => ⟨_, he, law_post rfl hW' rfl (by kernel_rfl) Tryd.underlying4 (by kernel_rfl) laidOut hb⟩

open Go.ChangeShapes Go.WideShapes Go.ChangeAt in
theorem ProfReads_met (os : Os) : laidMet Tryd.prog Rows.profReadsUptoRow.laid ((laidWorldP os).forCall (fun _ _ => 0) ⟨#[], #[.slice none 0 0, .string ⟨#[]⟩], []⟩).memory :=
  laidMet_of_run' 8 (by kernel_rfl) (by kernel_rfl)
open Go.ChangeShapes Go.WideShapes Go.ChangeAt in
theorem ProfReads_reads (os : Os) {H : Type} (enc : TypeId × Value → H) : ∃ places, DataW.whole enc Tryd.prog ((laidWorldP os).forCall (fun _ _ => 0) ⟨#[], #[.slice none 0 0, .string ⟨#[]⟩], []⟩).memory Tryd.f3.params.toList Rows.profReadsSpec.vars false #[.slice none 0 0, .string ⟨#[]⟩].toList 8 = some ([.nil, .lit (.string [])], [], places) :=
  ⟨[], by kernel_rfl⟩

open Go.ChangeShapes Go.WideShapes Go.ChangeAt in
set_option maxRecDepth 100000 in
theorem ProfReads_lifted (os : Os) (started : os.Started) (H : Type) (enc : TypeId × Value → H) (F : Stop.Interp) :
    ReturnsInHanded {} Tryd.checked os 3 .any ((Rows.OpenSpec.upto Rows.profReadsSpec).preRow enc Tryd.prog Tryd.f3 Rows.profReadsUptoRow.domain false Rows.profReadsUptoRow.laid) (((Rows.OpenSpec.upto Rows.profReadsSpec).at F).post enc Tryd.prog Tryd.f3 false true false false) := by
  obtain ⟨places, hx⟩ := ProfReads_reads os enc
  refine returnsInHanded_of_row (C := Tryd.checked) (s := Rows.OpenSpec.upto Rows.profReadsSpec) own started (by kernel_rfl) Tryd.func3
    (witness_row_at (enc := enc) (C := Tryd.checked) false (laidWorldP os) #[.slice none 0 0, .string ⟨#[]⟩] rfl (by kernel_rfl) (by kernel_rfl) (by kernel_rfl)
      (OpenSpec.preRow_of_cond 8 hx (by kernel_rfl) (fun k hk => by cases hk; kernel_rfl) (by kernel_rfl) (ProfReads_met os))) ?_
  intro W base args ds gs before hval hW _ hcond _ hL hS _
  exact ProfReads_contract H enc W base args ds gs before hval hW hL hS (hcond _ rfl)

theorem ProfReads_said : Rows.ProfReadsUptoSaid :=
  OpenClaim.holds_of_cond 3 Tryd.f3 rfl rfl rfl rfl rfl rfl rfl ⟨rfl, rfl, rfl, rfl, rfl⟩ rfl rfl rfl rfl rfl (by kernel_rfl) Tryd.func3 (by kernel_rfl)
    (of_decide_eq_true (by kernel_rfl)) (by unfold Func.isWrapper; first | (rw [if_pos (by decide +kernel)]; kernel_rfl) | (rw [if_neg (by decide +kernel)]; exact ⟨rfl, rfl⟩))
    (fun os started H enc _ F => by rw [OpenClaim.pre_eq_preRow]; exact ProfReads_lifted os started H enc F)

theorem ProfReads_holds : Rows.ProfReadsUptoCardSaid :=
  Claim7.holds_tied_plain_at .later [] _ _ _ _ ProfReads_said (fun _ h => by cases h) (by kernel_rfl) (fun _ h => by cases h) profReadsUpto_row_tie rfl ⟨rfl, rfl⟩ (by kernel_rfl) rfl
    (card_plain (f0 := 3) (fn0 := Tryd.f3) (by kernel_rfl) Tryd.func3 (by kernel_rfl) (by kernel_rfl)) (by kernel_rfl)
end Go.Proofs.YtoifnnhbejofjaaDoor
end
