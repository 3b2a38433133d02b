/- hawserlaw16.MuxRuns: whatever is asked of a sender and a receiver, they answer as the document says. No condition. -/
import Derived.Test.YtknoedlelmflhaaMuxRuns
import Derived.Test.YtknoedlelmflhaaOpenOps
namespace Go.Proofs.Ytknoedlelmflhaa
open Go.RowKit Go.ChangeShapes Go.WideShapes Go.ChangeAt Plain

section
variable {H : Type} {enc : TypeId × Value → H} {w : World} {base : Nat} {held : Bool}
theorem trod_i {n : Nat} {c : Value} {y : DataW H × List MemPlace} (h : DataW.trod enc Try.prog w base (fun _ => true) held n 3 [c] = some y) : ∃ x, c = .int .i64 x ∧ i64 x := by
  obtain ⟨x, hv, -, hw⟩ := DataW.trod_int Try.underlying3 h
  exact ⟨x, by simpa using hv, bounds_i64 hw⟩
theorem trod_s {n : Nat} {c : Value} {y : DataW H × List MemPlace} (h : DataW.trod enc Try.prog w base (fun _ => true) held n 9 [c] = some y) : ∃ x : List UInt8, c = .string ⟨x.toArray⟩ ∧ x.length ≤ 9223372036854775807 := by
  obtain ⟨x, hv, -, hw⟩ := trod_str Try.underlying9 h
  exact ⟨x, hv, Nat.le_trans hw (by unfold maxLen; omega)⟩
theorem trod_b {n : Nat} {c : Value} {y : DataW H × List MemPlace} (h : DataW.trod enc Try.prog w base (fun _ => true) held n 4 [c] = some y) : ∃ x, c = .bool x := by
  obtain ⟨x, hv, -⟩ := DataW.trod_bool Try.underlying4 h
  exact ⟨x, by simpa using hv⟩
theorem cI : Try.prog.cellsOf 3 = 1 := by kernel_rfl
theorem cS : Try.prog.cellsOf 9 = 1 := by kernel_rfl
theorem cB : Try.prog.cellsOf 4 = 1 := by kernel_rfl
theorem cF : Try.prog.cellsOf 37 = 4 := by kernel_rfl

set_option maxRecDepth 100000 in
theorem open_op (vs : List Value) (n : Nat) (hl : vs.length = 8) (h0 : ∃ y, DataW.trod enc Try.prog w base (fun _ => true) held n 3 ((vs.drop 0).take (Try.prog.cellsOf 3)) = some y) (h1 : ∃ y, DataW.trod enc Try.prog w base (fun _ => true) held n 3 ((vs.drop 1).take (Try.prog.cellsOf 3)) = some y)
    (h2 : ∃ y, DataW.trod enc Try.prog w base (fun _ => true) held n 3 ((vs.drop 2).take (Try.prog.cellsOf 3)) = some y) (h3 : ∃ y, DataW.trod enc Try.prog w base (fun _ => true) held n 9 ((vs.drop 3).take (Try.prog.cellsOf 9)) = some y)
    (h4 : ∃ y, DataW.trod enc Try.prog w base (fun _ => true) held n 37 ((vs.drop 4).take (Try.prog.cellsOf 37)) = some y) : ∃ x, vs = opV x ∧ OkOp x := by
  match vs, hl with
  | [a0, a1, a2, a3, a4, a5, a6, a7], _ =>
    rw [cI] at h0 h1 h2
    rw [cS] at h3
    rw [cF] at h4
    simp only [List.drop, List.take] at h0 h1 h2 h3 h4
    obtain ⟨y0, h0⟩ := h0
    obtain ⟨y1, h1⟩ := h1
    obtain ⟨y2, h2⟩ := h2
    obtain ⟨y3, h3⟩ := h3
    obtain ⟨y4, h4⟩ := h4
    obtain ⟨x0, rfl, k0⟩ := trod_i h0
    obtain ⟨x1, rfl, k1⟩ := trod_i h1
    obtain ⟨x2, rfl, k2⟩ := trod_i h2
    obtain ⟨x3, rfl, k3⟩ := trod_s h3
    obtain ⟨ys, n', -, -, -, hyl, hg⟩ := DataW.trod_struct Try.underlying37 h4
    have hyl' : ys.length = 4 := hyl
    have g0 : DataW.trod enc Try.prog w base (fun _ => true) held n' 3 (([a4, a5, a6, a7].drop 0).take (Try.prog.cellsOf 3)) = some (ys[0]'(by omega)) := (hg 0 _ rfl).trans (List.getElem?_eq_getElem (l := ys) (i := 0) (by omega))
    have g1 : DataW.trod enc Try.prog w base (fun _ => true) held n' 3 (([a4, a5, a6, a7].drop 1).take (Try.prog.cellsOf 3)) = some (ys[1]'(by omega)) := (hg 1 _ rfl).trans (List.getElem?_eq_getElem (l := ys) (i := 1) (by omega))
    have g2 : DataW.trod enc Try.prog w base (fun _ => true) held n' 9 (([a4, a5, a6, a7].drop 2).take (Try.prog.cellsOf 9)) = some (ys[2]'(by omega)) := (hg 2 _ rfl).trans (List.getElem?_eq_getElem (l := ys) (i := 2) (by omega))
    have g3 : DataW.trod enc Try.prog w base (fun _ => true) held n' 4 (([a4, a5, a6, a7].drop 3).take (Try.prog.cellsOf 4)) = some (ys[3]'(by omega)) := (hg 3 _ rfl).trans (List.getElem?_eq_getElem (l := ys) (i := 3) (by omega))
    simp only [cI, cS, cB, List.drop, List.take] at g0 g1 g2 g3
    obtain ⟨x4, rfl, k4⟩ := trod_i g0
    obtain ⟨x5, rfl, k5⟩ := trod_i g1
    obtain ⟨x6, rfl, k6⟩ := trod_s g2
    obtain ⟨x7, rfl⟩ := trod_b g3
    exact ⟨⟨x0, x1, x2, x3, x4, x5, x6, x7⟩, rfl, k0, k1, k2, k3, k4, k5, k6⟩

set_option maxRecDepth 100000 in
theorem open_ops {r : Reach} {b0 : Nat} {v : Value} {d : DataW H} {ps : List MemPlace} (hval : Value.okWide Try.prog w r b0 49 v) (hd : DataW.Trod enc Try.prog w base (fun _ => true) held 49 v d ps) :
    ∃ A c, ∃ l : List OpR, v = .slice A l.length c ∧ l.length ≤ c ∧ c ≤ maxLen ∧ IsRows w 8 A (l.map opV) ∧ ∀ x ∈ l, OkOp x := by
  obtain ⟨A, c, l, V, h1, h2, h3, h4, h5, h6⟩ := open_rowsW (α := OpR) (fun vs x => vs = opV x ∧ OkOp x) Try.underlying49 Try.underlying58 (size := 8) (by kernel_rfl)
    (fun vs n hl hf => open_op vs n hl (hf 0 _ rfl) (hf 1 _ rfl) (hf 2 _ rfl) (hf 3 _ rfl) (hf 4 _ rfl)) hval hd
  have hV : V = l.map opV := List.ext_getElem (by simp [h4]) (fun k h h' => by
    have hk : k < l.length := by omega
    rw [(h6 k hk h).1]; simp)
  subst hV
  refine ⟨A, c, l, h1, h2, h3, h5, fun x hx => ?_⟩
  obtain ⟨k, hk, rfl⟩ := List.getElem_of_mem hx
  exact (h6 k hk (by simpa using hk)).2
end

set_option maxRecDepth 100000 in
theorem MuxRuns_any (wi si : Int) (A : Option Addr) (c : Nat) (l : List OpR) (w : World) (hw : i64 wi) (hs : i64 si) (hl : IsRows w 8 A (l.map opV)) (hll : l.length ≤ 9223372036854775807) (hok : ∀ x ∈ l, OkOp x) :
    Calls Try.prog 4 #[.int .i64 wi, .int .i64 si, .slice A l.length c] w (Ret w (.bool true)) := by
  by_cases hbad : wi < 1 ∨ si < 1
  · exact MuxRuns_bad wi si A c l.length w hbad
  · obtain ⟨x, rfl⟩ := Int.eq_ofNat_of_zero_le (show 0 ≤ wi by omega)
    obtain ⟨y, rfl⟩ := Int.eq_ofNat_of_zero_le (show 0 ≤ si by omega)
    exact MuxRuns_good x y A c l w (by omega) (by omega) hw.2 hs.2 hl hll hok

theorem len_max2 : maxLen ≤ 9223372036854775807 := by unfold maxLen; omega
set_option maxRecDepth 100000 in
open Go.ChangeShapes Go.WideShapes Go.ChangeAt in
/-- What the walk gives, for every argument. -/
theorem MuxRuns_contract (H : Type) (enc : TypeId × Value → H) (W : World) (base : Nat) (args : Array Value) (ds gs : List (DataW H)) (before : List MemPlace)
    (hval : ∀ (j : Nat) t v, Try.f4.params[j]? = some t → args[j]? = some v → Value.okWide Try.prog W .any base t v)
    (hW : DataW.Whole enc Try.prog Try.f4.params.toList Rows.muxRunsSpec.vars false W args.toList ds gs before) :
    Calls Try.prog 4 args W fun e W' => ∃ v, e = .returned v ∧ Rows.muxRunsSpec.post enc Try.prog Try.f4 false true false false W args v W' := by
  have hW' := hW
  obtain ⟨p, q, hA0, hV, rfl, hfz, hnd⟩ := hW
  have hA : DataW.TrodAll enc Try.prog W 0 (fun _ => true) true Try.f4.params.toList args.toList ds p := hA0
  rw [Try.params4] at hA hval
  obtain ⟨v0, vs0, d0, ds0, p0, q0, hargs, rfl, rfl, h0, r0⟩ := trodAll_cons hA
  obtain ⟨v1, vs1, d1, ds1, p1, q1, rfl, rfl, rfl, h1, r1⟩ := trodAll_cons r0
  obtain ⟨v2, vs2, d2, ds2, p2, q2, rfl, rfl, rfl, h2, r2⟩ := trodAll_cons r1
  obtain ⟨rfl, rfl, rfl⟩ := trodAll_nil r2
  obtain rfl : args = #[v0, v1, v2] := by cases args; simp_all
  obtain ⟨rfl, rfl⟩ := trodVars_none hV
  obtain ⟨x0, rfl, rfl, rfl, k0⟩ := open_int Try.underlying3 (hval 0 3 v0 rfl rfl) h0
  have k0 := bounds_i64 k0
  obtain ⟨x1, rfl, rfl, rfl, k1⟩ := open_int Try.underlying3 (hval 1 3 v1 rfl rfl) h1
  have k1 := bounds_i64 k1
  obtain ⟨A2, c2, x2, rfl, hc2, hm2, k2, ks2⟩ := open_ops (hval 2 49 v2 rfl rfl) h2
  clear hA0
  refine (MuxRuns_any x0 x1 A2 c2 x2 W k0 k1 k2 (Nat.le_trans hc2 (Nat.le_trans hm2 len_max2)) ks2).mono ?_
  exact fun e W' ⟨he, hb⟩ => ⟨_, he, law_post rfl hW' rfl (by kernel_rfl) Try.underlying4 (by kernel_rfl) laidOut hb⟩

open Go.ChangeShapes Go.WideShapes Go.ChangeAt in
set_option maxRecDepth 100000 in
theorem MuxRuns_lifted (os : Os) (started : os.Started) (H : Type) (enc : TypeId × Value → H) :
    ReturnsInHanded {} Try.checked os 4 .any (Rows.muxRunsSpec.pre6 enc Try.prog Try.f4 Rows.muxRunsRow.domain false) (Rows.muxRunsSpec.post enc Try.prog Try.f4 false true false false) := by
  refine returnsInHanded_of_change (C := Try.checked) own started (by kernel_rfl) Try.func4
    (ChangeSpec.witness6 (enc := enc) (C := Try.checked) false ⟨#[], #[.int .i64 0, .int .i64 0, .slice none 0 0], []⟩ 8 (by kernel_rfl) (by kernel_rfl) (by kernel_rfl) (by kernel_rfl)) ?_
  intro W base args ds gs before hval hW _ _
  exact MuxRuns_contract H enc W base args ds gs before hval hW

theorem MuxRuns_holds : Rows.MuxRunsSaid :=
  OpenClaim.holds_of_wide 4 Try.f4 rfl rfl rfl rfl rfl rfl rfl ⟨rfl, rfl, rfl, rfl, rfl⟩ rfl rfl rfl rfl rfl (by kernel_rfl) Try.func4 (by kernel_rfl)
    (of_decide_eq_true (by kernel_rfl)) (by unfold Func.isWrapper; first | (rw [if_pos (by decide +kernel)]; kernel_rfl) | (rw [if_neg (by decide +kernel)]; exact ⟨rfl, rfl⟩))
    (fun os started H enc _ => MuxRuns_lifted os started H enc)
end Go.Proofs.Ytknoedlelmflhaa
