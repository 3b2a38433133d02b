/- Texts joined: ProfSame, ProfAwake, CellMax, ProfCard, ProfBaseA. -/
import Derived.Test.YtoifnnhbejofjaaDoorBProfBaseA8
import Derived.Laws.StructEq
import Derived.Test.YtoifnnhbejofjaaDoorShelf
import Derived.Test.YtoifnnhbejofjaaDoorBProfBaseA1
import Derived.Shelf.Vars
import Derived.Test.YtoifnnhbejofjaaDoorBProfBaseA2
import Derived.Lib.LaidU8T
import Derived.Lib.LaidTab
import Derived.LaidMore
set_option linter.unusedSimpArgs false
set_option linter.unusedVariables false

/- The document's Same, of profiles that are the same. -/
section
set_option linter.unusedVariables false
namespace Go.Proofs.YtoifnnhbejofjaaDoor
open Go.RowKit Plain

theorem ba_list_beq (l m : List UInt8) : ((ByteArray.mk l.toArray).toList == (ByteArray.mk m.toArray).toList) = (l == m) := by
  rw [ByteArray.toList_eq, ByteArray.toList_eq]
theorem part_cell {P : Program} {W : World} {ty : TypeId} {d : TypeDesc} {xs : Array Value} {off : Nat} {v : Value} (hu : P.underlying ty = some d) (hd : (match d with | .struct _ | .array _ _ => true | _ => false) = false) (hx : xs[off]? = some v) :
    (part ty xs off).run P W = .ok v W := by
  have hagg : (isAgg ty).run P W = .ok false W := by
    unfold isAgg
    rw [Sem.run_bind, run_underlying hu W]
    cases d <;> simp_all
  simp [part, hagg, hx, Sem.run_bind]
theorem eqFields_step {P : Program} {W : World} {d : Nat} {xs ys : Array Value} {f : Field} {fs : List Field} {a b : Value} {r : Bool} (hn : (f.name == "_") = false) (ha : (part f.type xs f.offset).run P W = .ok a W) (hb : (part f.type ys f.offset).run P W = .ok b W) (hr : (Op.equalIn d f.type a b).run P W = .ok r W)
    {q : Bool} (hq : (Op.eqFields d xs ys fs).run P W = .ok q W) : (Op.eqFields d xs ys (f :: fs)).run P W = .ok (r && q) W := by
  have hn' : f.name ≠ "_" := by simpa using hn
  simp only [Op.eqFields, if_pos hn', Sem.run_bind, ha, hb, hr, Result.andThen_ok]
  cases r
  · simp
  · simpa using hq
theorem fields_rule : (Tryd.prog.fieldsOf 67).toList.map (fun f => (f.name == "_", f.type, f.offset)) = [(false, 4, 0), (false, 9, 1)] := by kernel_rfl
theorem fields_pgm : (Tryd.prog.fieldsOf 54).toList.map (fun f => (f.name == "_", f.type, f.offset)) = [(false, 9, 0), (false, 9, 1)] := by kernel_rfl
theorem fields_txt : (Tryd.prog.fieldsOf 29).toList.map (fun f => (f.name == "_", f.type, f.offset)) = [(false, 9, 0), (false, 9, 1)] := by kernel_rfl
theorem rule_eq (W : World) (x : Rule) : (Op.equalIn 10000 67 (.agg (rulV x).toArray) (.agg (rulV x).toArray)).run Tryd.prog W = .ok true W := by
  obtain ⟨p, k⟩ := x
  rw [run_equalIn_agg (d := 9999) _ _ _ _ (by kernel_rfl) (by kernel_rfl)]
  have hf := fields_rule
  revert hf
  generalize (Tryd.prog.fieldsOf 67).toList = fs
  intro hf
  obtain ⟨f0, f1, rfl⟩ : ∃ f0 f1, fs = [f0, f1] := by
    have hl : fs.length = 2 := by simpa using congrArg List.length hf
    clear hf
    match fs, hl with
    | [f0, f1], _ => exact ⟨f0, f1, rfl⟩
  simp only [List.map_cons, List.map_nil, List.cons.injEq, Prod.mk.injEq, and_true] at hf
  obtain ⟨⟨n0, t0, o0⟩, ⟨n1, t1, o1⟩⟩ := hf
  have hS := fun {xs : Array Value} {off : Nat} {v : Value} (hx : xs[off]? = some v) => part_cell (W := W) (ty := 9) Tryd.underlying9 rfl hx
  have hB := fun {xs : Array Value} {off : Nat} {v : Value} (hx : xs[off]? = some v) => part_cell (W := W) (ty := 4) Tryd.underlying4 rfl hx
  exact eqFields_step (r := true) n0 (a := .bool k) (b := .bool k) (by rw [t0, o0]; exact hB rfl) (by rw [t0, o0]; exact hB rfl) (by rw [t0, run_equalIn_bool (d := 9998) _ _ _ _ Tryd.underlying4]; simp)
    (eqFields_step (r := true) n1 (a := .string ⟨p.toArray⟩) (b := .string ⟨p.toArray⟩) (by rw [t1, o1]; exact hS rfl) (by rw [t1, o1]; exact hS rfl) (by rw [t1, run_equalIn_string (d := 9998) _ _ _ _ Tryd.underlying9, ba_list_beq]; simp) rfl)
theorem pgm_eq (W : World) (x : Prg) : (Op.equalIn 10000 54 (.agg (pgmV x).toArray) (.agg (pgmV x).toArray)).run Tryd.prog W = .ok true W := by
  obtain ⟨p, k⟩ := x
  rw [run_equalIn_agg (d := 9999) _ _ _ _ (by kernel_rfl) (by kernel_rfl)]
  have hf := fields_pgm
  revert hf
  generalize (Tryd.prog.fieldsOf 54).toList = fs
  intro hf
  obtain ⟨f0, f1, rfl⟩ : ∃ f0 f1, fs = [f0, f1] := by
    have hl : fs.length = 2 := by simpa using congrArg List.length hf
    clear hf
    match fs, hl with
    | [f0, f1], _ => exact ⟨f0, f1, rfl⟩
  simp only [List.map_cons, List.map_nil, List.cons.injEq, Prod.mk.injEq, and_true] at hf
  obtain ⟨⟨n0, t0, o0⟩, ⟨n1, t1, o1⟩⟩ := hf
  have hS := fun {xs : Array Value} {off : Nat} {v : Value} (hx : xs[off]? = some v) => part_cell (W := W) (ty := 9) Tryd.underlying9 rfl hx
  exact eqFields_step (r := true) n0 (a := .string ⟨p.toArray⟩) (b := .string ⟨p.toArray⟩) (by rw [t0, o0]; exact hS rfl) (by rw [t0, o0]; exact hS rfl) (by rw [t0, run_equalIn_string (d := 9998) _ _ _ _ Tryd.underlying9, ba_list_beq]; simp)
    (eqFields_step (r := true) n1 (a := .string ⟨k.toArray⟩) (b := .string ⟨k.toArray⟩) (by rw [t1, o1]; exact hS rfl) (by rw [t1, o1]; exact hS rfl) (by rw [t1, run_equalIn_string (d := 9998) _ _ _ _ Tryd.underlying9, ba_list_beq]; simp) rfl)
theorem txt_eq (W : World) (x : Txt) : (Op.equalIn 10000 29 (.agg (txtV x).toArray) (.agg (txtV x).toArray)).run Tryd.prog W = .ok true W := by
  obtain ⟨p, k⟩ := x
  rw [run_equalIn_agg (d := 9999) _ _ _ _ (by kernel_rfl) (by kernel_rfl)]
  have hf := fields_txt
  revert hf
  generalize (Tryd.prog.fieldsOf 29).toList = fs
  intro hf
  obtain ⟨f0, f1, rfl⟩ : ∃ f0 f1, fs = [f0, f1] := by
    have hl : fs.length = 2 := by simpa using congrArg List.length hf
    clear hf
    match fs, hl with
    | [f0, f1], _ => exact ⟨f0, f1, rfl⟩
  simp only [List.map_cons, List.map_nil, List.cons.injEq, Prod.mk.injEq, and_true] at hf
  obtain ⟨⟨n0, t0, o0⟩, ⟨n1, t1, o1⟩⟩ := hf
  have hS := fun {xs : Array Value} {off : Nat} {v : Value} (hx : xs[off]? = some v) => part_cell (W := W) (ty := 9) Tryd.underlying9 rfl hx
  exact eqFields_step (r := true) n0 (a := .string ⟨p.toArray⟩) (b := .string ⟨p.toArray⟩) (by rw [t0, o0]; exact hS rfl) (by rw [t0, o0]; exact hS rfl) (by rw [t0, run_equalIn_string (d := 9998) _ _ _ _ Tryd.underlying9, ba_list_beq]; simp)
    (eqFields_step (r := true) n1 (a := .string ⟨k.toArray⟩) (b := .string ⟨k.toArray⟩) (by rw [t1, o1]; exact hS rfl) (by rw [t1, o1]; exact hS rfl) (by rw [t1, run_equalIn_string (d := 9998) _ _ _ _ Tryd.underlying9, ba_list_beq]; simp) rfl)
theorem rule_neq (W : World) (x : Rule) : (binOp .neq 67 (.agg (rulV x).toArray) (.agg (rulV x).toArray)).run Tryd.prog W = .ok (.bool false) W := by
  rw [run_neq_struct, rule_eq, Result.andThen_ok]; rfl
theorem pgm_neq (W : World) (x : Prg) : (binOp .neq 54 (.agg (pgmV x).toArray) (.agg (pgmV x).toArray)).run Tryd.prog W = .ok (.bool false) W := by
  rw [run_neq_struct, pgm_eq, Result.andThen_ok]; rfl
theorem txt_eql (W : World) (x : Txt) : (binOp .eql 29 (.agg (txtV x).toArray) (.agg (txtV x).toArray)).run Tryd.prog W = .ok (.bool true) W := by
  rw [run_eql_struct, txt_eq, Result.andThen_ok]

theorem pair_cells {α : Type} {enc : α → List Value} {w : World} {A : Option Addr} {l : List α} (h : IsRows w 2 A (l.map enc)) {i : Nat} (hi : i < l.length) {u v : Value} (he : enc l[i] = [u, v]) :
    ∃ ad, A = some ad ∧ w.cell? (ad.add (i * 2)) = some u ∧ w.cell? ⟨(ad.add (i * 2)).block, (ad.add (i * 2)).off + 1, none⟩ = some v := by
  obtain ⟨ad, hA, h0, h1⟩ := IsRows.at_ h (k := i) (by simpa using hi)
  exact ⟨ad, hA, h0 _ (by simp [he]), h1 0 _ (by simp [he])⟩

set_option maxHeartbeats 2000000 in
set_option maxRecDepth 100000 in
theorem sameRules_same (l : List Rule) (A B : Option Addr) (c d : Nat) (w : World) (ha : IsRows w 2 A (l.map rulV)) (hb : IsRows w 2 B (l.map rulV)) (hl : l.length ≤ 9223372036854775807) :
    Calls Tryd.prog 16 #[.slice A l.length c, .slice B l.length d] w (Ret w (.bool true)) := by
  have HA := Lib.hid (fun W (h : Below w.heap.size w W) => ha.below h)
  have HB := Lib.hid (fun W (h : Below w.heap.size w W) => hb.below h)
  clear ha hb
  go_enter Tryd.func16, Tryd.ntmps16
  go_wp2_with (fail)
  go_loopw [5] (fun t5 W => ∃ (i : Nat), i ≤ l.length ∧ t5 = .int .i64 i ∧ Hid (Below w.heap.size w W)) (fun t5 _ => l.length - (intOf t5).toNat)
  case atStart => exact ⟨0, by omega, rfl, Lib.hid (Below.refl _ _)⟩
  case round =>
    obtain ⟨i, hi, rfl, HW⟩ := hrel
    have i0 : (0 : Int) ≤ i := by omega
    by_cases hlt : i < l.length
    · have i1 : (i : Int) < l.length := by omega
      have e1 : IntKind.i64.wrap ((i : Int) + 1) = (i : Int) + 1 := IntWalk.i64_in _ (by omega)
      obtain ⟨ad, rfl, c0, c1⟩ := pair_cells (HA.out _ HW.out) hlt rfl
      obtain ⟨bd, rfl, d0, d1⟩ := pair_cells (HB.out _ HW.out) hlt rfl
      have HNE := fun W => rule_neq W l[i]
      generalize l[i] = x at *
      obtain ⟨pt, ig⟩ := x
      unfold rulV at HNE
      simp only at HNE c0 c1 d0 d1
      go_wp2_with (fail)
      go_quiet (fail)
      go_wp2_with (fail)
      go_roundw
      case rel => exact ⟨i + 1, by omega, by go_num, Lib.hid (below_drewN HW.out _)⟩
      case measure => simp [intOf]; omega
    · obtain rfl : i = l.length := by omega
      have i1 : decide ((l.length : Int) < (l.length : Int)) = false := by rw [decide_eq_false_iff_not]; omega
      go_wp2_with (fail)
      go_ret
      exact ⟨rfl, HW.out⟩

set_option maxHeartbeats 4000000 in
set_option maxRecDepth 100000 in
theorem Same_same (p : PF) (A0 : Option Addr) (c0 : Nat) (A1 : Option Addr) (c1 : Nat) (A2 : Option Addr) (c2 : Nat) (B0 : Option Addr) (d0 : Nat) (B1 : Option Addr) (d1 : Nat) (B2 : Option Addr) (d2 : Nat) (w : World) (ha : PfAt w A0 c0 A1 c1 A2 c2 p) (hb : PfAt w B0 d0 B1 d1 B2 d2 p) (hl : p.ign.length ≤ 9223372036854775807 ∧ p.bak.length ≤ 9223372036854775807 ∧ p.mrg.length ≤ 9223372036854775807) :
    Calls Tryd.prog 9 #[pfV A0 c0 A1 c1 A2 c2 p, pfV B0 d0 B1 d1 B2 d2 p] w (Ret w (.bool true)) := by
  have HSI := Lib.hid (fun W (h : Below w.heap.size w W) => sameRules_same p.ign A0 B0 c0 d0 W (ha.ign.below h) (hb.ign.below h) hl.1)
  have HSB := Lib.hid (fun W (h : Below w.heap.size w W) => sameRules_same p.bak A1 B1 c1 d1 W (ha.bak.below h) (hb.bak.below h) hl.2.1)
  have HA := Lib.hid (fun W (h : Below w.heap.size w W) => ha.mrg.below h)
  have HB := Lib.hid (fun W (h : Below w.heap.size w W) => hb.mrg.below h)
  obtain ⟨W0, hW0⟩ : ∃ W0, (w.alloc (.cells #[.slice A0 p.ign.length c0, .slice A1 p.bak.length c1, .slice A2 p.mrg.length c2, .int .i64 p.pre, .int .i64 p.frc, .bool p.bat, .bool p.fst] 27)).alloc (.cells #[.slice B0 p.ign.length d0, .slice B1 p.bak.length d1, .slice B2 p.mrg.length d2, .int .i64 p.pre, .int .i64 p.frc, .bool p.bat, .bool p.fst] 27) = W0 := ⟨_, rfl⟩
  have HB0 := Lib.hid (show Below w.heap.size w W0 by rw [← hW0]; exact ((Below.refl w.heap.size w).alloc (Nat.le_refl _) _).alloc (by simp) _)
  have hr0 : W0.heap[w.heap.size]? = some (.cells #[.slice A0 p.ign.length c0, .slice A1 p.bak.length c1, .slice A2 p.mrg.length c2, .int .i64 p.pre, .int .i64 p.frc, .bool p.bat, .bool p.fst] 27 (0, 0)) := by
    rw [← hW0, Below.heap_alloc _ _ _ (by simp)]; exact heap_alloc_new _ _
  have hr1 : W0.heap[w.heap.size + 1]? = some (.cells #[.slice B0 p.ign.length d0, .slice B1 p.bak.length d1, .slice B2 p.mrg.length d2, .int .i64 p.pre, .int .i64 p.frc, .bool p.bat, .bool p.fst] 27 (0, 0)) := by
    rw [← hW0]
    have := heap_alloc_new (w.alloc (.cells #[.slice A0 p.ign.length c0, .slice A1 p.bak.length c1, .slice A2 p.mrg.length c2, .int .i64 p.pre, .int .i64 p.frc, .bool p.bat, .bool p.fst] 27)) (.cells #[.slice B0 p.ign.length d0, .slice B1 p.bak.length d1, .slice B2 p.mrg.length d2, .int .i64 p.pre, .int .i64 p.frc, .bool p.bat, .bool p.fst] 27)
    simpa using this
  have hsz : W0.heap.size = w.heap.size + 2 := by rw [← hW0]; simp
  have HW0 := Lib.hid hW0
  have HC := Lib.hid (fun W (h : Below W0.heap.size W0 W) => And.intro ((h.block _ (by omega)).trans hr0) ((h.block _ (by omega)).trans hr1))
  have hl2 := hl.2.2
  clear hW0 hr0 hr1 ha hb hl
  have cells : ∀ W, Below W0.heap.size W0 W → (W.cell? ⟨w.heap.size, 0, none⟩ = some (.slice A0 p.ign.length c0) ∧ W.cell? ⟨w.heap.size, 1, none⟩ = some (.slice A1 p.bak.length c1) ∧ W.cell? ⟨w.heap.size, 2, none⟩ = some (.slice A2 p.mrg.length c2) ∧ W.cell? ⟨w.heap.size, 3, none⟩ = some (.int .i64 p.pre) ∧ W.cell? ⟨w.heap.size, 4, none⟩ = some (.int .i64 p.frc) ∧ W.cell? ⟨w.heap.size, 5, none⟩ = some (.bool p.bat) ∧ W.cell? ⟨w.heap.size, 6, none⟩ = some (.bool p.fst)) ∧
      (W.cell? ⟨w.heap.size + 1, 0, none⟩ = some (.slice B0 p.ign.length d0) ∧ W.cell? ⟨w.heap.size + 1, 1, none⟩ = some (.slice B1 p.bak.length d1) ∧ W.cell? ⟨w.heap.size + 1, 2, none⟩ = some (.slice B2 p.mrg.length d2) ∧ W.cell? ⟨w.heap.size + 1, 3, none⟩ = some (.int .i64 p.pre) ∧ W.cell? ⟨w.heap.size + 1, 4, none⟩ = some (.int .i64 p.frc) ∧ W.cell? ⟨w.heap.size + 1, 5, none⟩ = some (.bool p.bat) ∧ W.cell? ⟨w.heap.size + 1, 6, none⟩ = some (.bool p.fst)) := fun W h => by
    have h0 := (HC.out W h).1
    have h1 := (HC.out W h).2
    exact ⟨⟨cell_of_row _ _ 0 _ _ _ h0, cell_of_row _ _ 1 _ _ _ h0, cell_of_row _ _ 2 _ _ _ h0, cell_of_row _ _ 3 _ _ _ h0, cell_of_row _ _ 4 _ _ _ h0, cell_of_row _ _ 5 _ _ _ h0, cell_of_row _ _ 6 _ _ _ h0⟩, cell_of_row _ _ 0 _ _ _ h1, cell_of_row _ _ 1 _ _ _ h1, cell_of_row _ _ 2 _ _ _ h1, cell_of_row _ _ 3 _ _ _ h1, cell_of_row _ _ 4 _ _ _ h1, cell_of_row _ _ 5 _ _ _ h1, cell_of_row _ _ 6 _ _ _ h1⟩
  have HCL := Lib.hid cells
  clear cells HC
  unfold pfV
  go_enter Tryd.func9, Tryd.ntmps9
  go_upto_region 1 with (fail)
  rw [HW0.out]
  obtain ⟨⟨a0, a1, a2, a3, a4, a5, a6⟩, b0, b1, b2, b3, b4, b5, b6⟩ := HCL.out _ (Below.refl _ _)
  go_wp2_with (fail)
  refine (HSI.out _ HB0.out).mono ?_
  rintro e w1 ⟨rfl, hw1⟩
  have HB1 := Lib.hid hw1
  clear a0 a1 a2 a3 a4 a5 a6 b0 b1 b2 b3 b4 b5 b6 hw1
  obtain ⟨⟨a0, a1, a2, a3, a4, a5, a6⟩, b0, b1, b2, b3, b4, b5, b6⟩ := HCL.out _ HB1.out
  go_wp2_with (fail)
  refine (HSB.out _ (HB0.out.trans (HB1.out.mono HB0.out.size))).mono ?_
  rintro e w2 ⟨rfl, hw2⟩
  have HB2 := Lib.hid (HB1.out.trans (hw2.mono HB1.out.size))
  clear a0 a1 a2 a3 a4 a5 a6 b0 b1 b2 b3 b4 b5 b6 hw2 HB1
  obtain ⟨⟨a0, a1, a2, a3, a4, a5, a6⟩, b0, b1, b2, b3, b4, b5, b6⟩ := HCL.out _ HB2.out
  go_wp2_with (fail)
  clear a0 a1 a2 a3 a4 a5 a6 b0 b1 b2 b3 b4 b5 b6
  go_loopw [5] (fun t5 W => ∃ (i : Nat), i ≤ p.mrg.length ∧ t5 = .int .i64 i ∧ Hid (Below W0.heap.size W0 W)) (fun t5 _ => p.mrg.length - (intOf t5).toNat)
  case atStart => exact ⟨0, by omega, rfl, HB2⟩
  case round =>
    obtain ⟨i, hi, rfl, HW⟩ := hrel
    have i0 : (0 : Int) ≤ i := by omega
    obtain ⟨⟨a0, a1, a2, a3, a4, a5, a6⟩, b0, b1, b2, b3, b4, b5, b6⟩ := HCL.out _ HW.out
    by_cases hlt : i < p.mrg.length
    · have i1 : (i : Int) < p.mrg.length := by omega
      have e1 : IntKind.i64.wrap ((i : Int) + 1) = (i : Int) + 1 := IntWalk.i64_in _ (by omega)
      obtain ⟨ad, rfl, x0, x1⟩ := pair_cells (HA.out _ (HB0.out.trans (HW.out.mono HB0.out.size))) hlt rfl
      obtain ⟨bd, rfl, y0, y1⟩ := pair_cells (HB.out _ (HB0.out.trans (HW.out.mono HB0.out.size))) hlt rfl
      have HNE := fun W => pgm_neq W p.mrg[i]
      generalize p.mrg[i] = x at *
      obtain ⟨nm, pt⟩ := x
      unfold pgmV at HNE
      simp only at HNE x0 x1 y0 y1
      go_wp2_with (fail)
      go_quiet (fail)
      go_wp2_with (fail)
      go_roundw
      case rel => exact ⟨i + 1, by omega, by go_num, Lib.hid (below_drewN HW.out _)⟩
      case measure => simp [intOf]; omega
    · obtain rfl : i = p.mrg.length := by omega
      have i1 : decide ((p.mrg.length : Int) < (p.mrg.length : Int)) = false := by rw [decide_eq_false_iff_not]; omega
      go_wp2_with (fail)
      go_ret
      exact ⟨by simp, HB0.out.trans (HW.out.mono HB0.out.size)⟩
end Go.Proofs.YtoifnnhbejofjaaDoor
end

/- hawserlaw08.awake, and a literal's texts. -/
section
set_option linter.unusedVariables false
namespace Go.Proofs.YtoifnnhbejofjaaDoor
open Go.RowKit Plain

theorem rows_heap {α : Type} {enc : α → List Value} {n : Nat} (hm : ∀ x, (enc x).length = n) (l : List α) {w : World} {g : Nat} {t : TypeId} {fr : Nat × Nat} (h : w.heap[g]? = some (.cells (rowsE enc l).toArray t fr)) : IsRows w n (some ⟨g, 0, none⟩) (l.map enc) := by
  intro j hj
  have hj' : j < l.length := by simpa using hj
  refine ⟨⟨g, 0, none⟩, rfl, fun i u hu => ?_⟩
  have hi : i < n := by
    have := (List.getElem?_eq_some_iff.1 hu).1
    rw [List.getElem_map, hm] at this; exact this
  rw [List.getElem_map] at hu
  rw [show (⟨g, 0, none⟩ : Addr).add (j * n + i) = ⟨g, j * n + i, none⟩ by unfold Addr.add; split <;> simp_all]
  have hr : ∀ (l : List α) (j : Nat) (hj : j < l.length), (enc l[j])[i]? = some u → (rowsE enc l)[j * n + i]? = some u := by
    intro l
    induction l with
    | nil => intro j hj; cases hj
    | cons x l ih =>
      intro j hj hu
      rw [rowsE_cons]
      cases j with
      | zero => simpa [List.getElem?_append_left, hm, hi] using hu
      | succ j =>
        rw [List.getElem?_append_right (by rw [hm]; rw [Nat.succ_mul]; omega), hm, show (j + 1) * n + i - n = j * n + i by rw [Nat.succ_mul]; omega]
        exact ih j (by simpa using hj) (by simpa using hu)
  exact cell_of_row w g (j * n + i) _ _ _ h |>.trans (by rw [List.getElem?_toArray]; exact hr l j hj' hu)

def awT : List Txt := [⟨nx, [105, 103, 110, 111, 114, 101, 32, 42, 46, 111, 10] ++ incL⟩, ⟨ny, [112, 114, 101, 102, 101, 114, 32, 97]⟩]
theorem aw_says : (parseP awT nx).2.2 = 0 ∧ (parseP awT nx).1.ign.length = 1 ∧ (parseP awT nx).1.pre = 1 := by decide +kernel

/-- A Parse's results laid in two new blocks. -/
theorem two_new {w2 : World} {C0 C1 C2 : Option Addr} {e0 e1 e2 : Nat} {q : PF} {tq : Txt} : ∃ Wq, (w2.alloc (.cells #[.slice C0 q.ign.length e0, .slice C1 q.bak.length e1, .slice C2 q.mrg.length e2, .int .i64 q.pre, .int .i64 q.frc, .bool q.bat, .bool q.fst] 27)).alloc (.cells #[.string ⟨tq.name.toArray⟩, .string ⟨tq.text.toArray⟩] 29) = Wq ∧ Below w2.heap.size w2 Wq ∧
    Wq.heap[w2.heap.size]? = some (.cells #[.slice C0 q.ign.length e0, .slice C1 q.bak.length e1, .slice C2 q.mrg.length e2, .int .i64 q.pre, .int .i64 q.frc, .bool q.bat, .bool q.fst] 27 (0, 0)) ∧
    Wq.heap[w2.heap.size + 1]? = some (.cells #[.string ⟨tq.name.toArray⟩, .string ⟨tq.text.toArray⟩] 29 (0, 0)) ∧ Wq.heap.size = w2.heap.size + 2 := by
  refine ⟨_, rfl, ((Below.refl _ _).alloc (Nat.le_refl _) _).alloc (by simp) _, ?_, ?_, by simp⟩
  · rw [Below.heap_alloc _ _ _ (by simp)]; exact heap_alloc_new _ _
  · have := heap_alloc_new (w2.alloc (.cells #[.slice C0 q.ign.length e0, .slice C1 q.bak.length e1, .slice C2 q.mrg.length e2, .int .i64 q.pre, .int .i64 q.frc, .bool q.bat, .bool q.fst] 27)) (.cells #[.string ⟨tq.name.toArray⟩, .string ⟨tq.text.toArray⟩] 29)
    simpa using this
set_option maxHeartbeats 4000000 in
set_option maxRecDepth 100000 in
theorem pawake_any (m : Int) (w : World) (hL : LaidP w m) : Calls Tryd.prog 6 #[] w (Ret w (.bool true)) := by
  obtain ⟨W0, hW0⟩ : ∃ W0, w.alloc (.cells #[.string ⟨#[120]⟩, .string ⟨#[105, 103, 110, 111, 114, 101, 32, 42, 46, 111, 10, 105, 110, 99, 108, 117, 100, 101, 32, 121]⟩, .string ⟨#[121]⟩, .string ⟨#[112, 114, 101, 102, 101, 114, 32, 97]⟩] 29) = W0 := ⟨_, rfl⟩
  have hB0 : Below w.heap.size w W0 := by rw [← hW0]; exact (Below.refl _ _).alloc (Nat.le_refl _) _
  have hR : IsRows W0 2 (some ⟨w.heap.size, 0, none⟩) (awT.map txtV) := rows_heap txtV_length awT (t := 29) (fr := (0, 0)) (by rw [← hW0]; exact heap_alloc_new _ _)
  have hPA : Calls Tryd.prog 7 #[.slice (some ⟨w.heap.size, 0, none⟩) 2 2, .string ⟨#[120]⟩] W0 (ParseOut W0 (parseP awT nx)) :=
    parse_any awT (some ⟨w.heap.size, 0, none⟩) 2 nx m W0 (hL.below hB0) hR (by decide) (by decide +kernel)
  obtain ⟨h1, h2, h3⟩ := aw_says
  generalize parseP awT nx = r at *
  obtain ⟨q, tq, k⟩ := r
  simp only at h1 h2 h3
  subst h1
  have HPA := Lib.hid hPA
  have HB0 := Lib.hid hB0
  have HW0 := Lib.hid hW0
  clear hPA hB0 hR hW0 hL
  go_enter Tryd.func6, Tryd.ntmps6
  go_wp2_with (fail)
  rw [HW0.out]
  refine HPA.out.mono ?_
  rintro e w2 ⟨A0, c0, A1, c1, A2, c2, rfl, hp, hb⟩
  unfold pfV txtV
  dsimp only
  obtain ⟨Wq, hWq, hbq, hq1, hq2, hsz⟩ := two_new (w2 := w2) (C0 := A0) (C1 := A1) (C2 := A2) (e0 := c0) (e1 := c1) (e2 := c2) (q := q) (tq := tq)
  have HWQ := Lib.hid hWq
  have HBX := Lib.hid (HB0.out.trans ((hb.trans (hbq.mono hb.size)).mono HB0.out.size))
  have y0 : Wq.cell? ⟨w2.heap.size, 0, none⟩ = some (.slice A0 1 c0) := h2 ▸ cell_of_row _ _ 0 _ _ _ hq1
  have y3 : Wq.cell? ⟨w2.heap.size, 3, none⟩ = some (.int .i64 1) := h3 ▸ cell_of_row _ _ 3 _ _ _ hq1
  clear h2 h3 hWq hbq hq1 hq2 hb hp HPA HW0 HB0
  go_upto_region 2 with (fail)
  rw [HWQ.out]
  clear HWQ
  go_wp2_with (fail)
  go_ret
  exact ⟨rfl, HBX.out⟩
end Go.Proofs.YtoifnnhbejofjaaDoor
end

/- A library's variable holds some int. -/
section
namespace Go.Proofs.YtoifnnhbejofjaaDoor
open Go.RowKit
theorem cell_maxLen {W : World} (hS : W.ShapedOpen Tryd.prog) : ∃ m, W.cell? ⟨0, 0, none⟩ = some (.int .i64 m) :=
  cell_of_shapedOpen_int (zero := #[.int .i64 0]) (t := 3) hS (of_decide_eq_true (by kernel_rfl)) (by kernel_rfl) rfl (by kernel_rfl) (by kernel_rfl) Tryd.underlying3
end Go.Proofs.YtoifnnhbejofjaaDoor
end

/- The frame of prof's cards: a world that holds the five listed tables. -/
section
namespace Go.Proofs.YtoifnnhbejofjaaDoor
open Go.ChangeShapes Go.WideShapes Go.ChangeAt Go.RowKit

/-- The settled world, the five tables laid. -/
noncomputable def laidWorldP (os : Os) : World :=
  { World.holding Tryd.prog os ⟨#[], #[], []⟩ with heap := layAt (layAt (layAt (layAt (layAt (World.holding Tryd.prog os ⟨#[], #[], []⟩).heap 4 Rows.laid_math_bits_deBruijn32tab) 5 Rows.laid_math_bits_deBruijn64tab) 1 Rows.laid_internal_strconv_uint64pow10) 3 Rows.laid_unicode_utf8_acceptRanges) 2 Rows.laid_unicode_utf8_first }

def renP : Go.Shelf.Ren := ⟨fun n => n, fun | 5 => 5 | 119 => 133 | 139 => 136 | 138 => 135 | n => n, fun | 3 => 2 | 4 => 3 | n => n⟩
theorem u8typesP : Go.Proofs.U8Types Tryd.prog renP := ⟨Tryd.underlying5, Tryd.underlying133, Tryd.underlying135, Tryd.underlying136⟩
theorem extraP : Go.Proofs.U8Extra Tryd.prog renP := {
  n3 := by kernel_rfl
  n4 := by kernel_rfl
  y3 := by kernel_rfl
  y4 := by kernel_rfl
  c5 := by kernel_rfl
  c119 := by kernel_rfl
  c138 := by kernel_rfl }
theorem first_sameP : Lib.firstData = Rows.laid_unicode_utf8_first := by kernel_rfl
theorem accept_sameP : Lib.acceptData = Rows.laid_unicode_utf8_acceptRanges := by kernel_rfl
theorem pow_sameP : Lib.tabData .u64 Lib.pow10Tab = (Rows.laid_internal_strconv_uint64pow10 : DataW Unit) := by kernel_rfl
theorem laid_ofP {W : World} (h : laidMetH Tryd.prog [("math/bits.deBruijn32tab", Rows.laid_math_bits_deBruijn32tab), ("math/bits.deBruijn64tab", Rows.laid_math_bits_deBruijn64tab), ("internal/strconv.uint64pow10", Rows.laid_internal_strconv_uint64pow10), ("unicode/utf8.acceptRanges", Rows.laid_unicode_utf8_acceptRanges), ("unicode/utf8.first", Rows.laid_unicode_utf8_first)] W) (hS : W.ShapedOpen Tryd.prog) : ∃ m, LaidP W m := by
  obtain ⟨m, hm⟩ := cell_maxLen hS
  rw [MakeChecks.laidMetH_plain _ _ _ (by kernel_rfl)] at h
  obtain ⟨ps, hps, _⟩ := h
  refine ⟨m, ⟨⟨?_, hm⟩, ?_⟩⟩
  · exact Go.Proofs.utf8Tabs_of_readsT u8typesP extraP (by rw [first_sameP]; exact Lib.LaidVars_reads hps _ _ (by simp)) (by rw [accept_sameP]; exact Lib.LaidVars_reads hps _ _ (by simp))
  · have hr := Lib.LaidVars_reads hps "internal/strconv.uint64pow10" Rows.laid_internal_strconv_uint64pow10 (by simp)
    rw [← pow_sameP] at hr
    obtain ⟨g', t', cs, fuel, p, hg', ht', hvar, hd⟩ := hr
    have hg : Tryd.prog.globalNamed "internal/strconv.uint64pow10" = some 1 := by kernel_rfl
    have hty : (Tryd.prog.globals[1]?).map (·.type) = some 129 := by kernel_rfl
    obtain rfl := Option.some.inj (hg.symm.trans hg')
    obtain rfl := Option.some.inj (hty.symm.trans ht')
    unfold Lib.TabIs
    rw [hvar, ← Lib.cells_of_tab Tryd.underlying129 Tryd.underlying122 (by kernel_rfl) (by kernel_rfl) hd]
end Go.Proofs.YtoifnnhbejofjaaDoor
end

/- What prof's laws share: Parse, the document's Same, awake, the frame of the cards. -/
section

end
