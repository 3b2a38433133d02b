/- Texts joined: Arch6, Two, AppendSlice, Sha1. -/
import Derived.Test.YtjajoiahgfafgaaGreatDoorBArchSame7
import Derived.Test.YtjajoiahgfafgaaGreatDoorBArchSame9
import Derived.Test.YtjajoiahgfafgaaGreatDoorBCodeBase1
import Derived.OwnWalk
import Derived.ArgAppend
import Derived.Deep.Upon
import Derived.Test.YtjajoiahgfafgaaGreatDoorBArchSame4
import Derived.RegionTactic
import Derived.BigRegion
import Derived.Deep.DeepCutAuto
import Derived.Deep.QuietTactic
import Derived.Deep.RegionWith
import Derived.BigQuiet
set_option linter.unusedSimpArgs false
set_option linter.unusedVariables false

/- arch: the laws' awake; the document's Same. -/
section
set_option linter.unusedVariables false
namespace Go.Proofs.YtjajoiahgfafgaaGreatDoor
open Go.RowKit Plain

namespace Plain
def eqSAt (a b : List Stp) (i : Nat) : Bool := a.getD i default == b.getD i default
theorem eqS_rest {a b : List Stp} (h : a.length = b.length) : restOK (eqSAt a b) 0 a.length = (a == b) := by
  rw [restOK_all, Bool.eq_iff_iff, List.all_eq_true, beq_iff_eq]
  constructor
  · intro q
    refine List.ext_getElem h fun i h1 h2 => ?_
    have := q i (List.mem_range.2 h1)
    unfold eqSAt at this
    simpa [List.getD, h1, h2] using this
  · rintro rfl i hi
    unfold eqSAt; simp
theorem stp_ne {x y : Stp} : (x == y) = ((x.ino == y.ino) && (x.size == y.size) && (x.time == y.time)) := by
  obtain ⟨p, k, m⟩ := x
  obtain ⟨p', k', m'⟩ := y
  rw [Bool.eq_iff_iff]
  simp only [beq_iff_eq, Bool.and_eq_true, Stp.mk.injEq, and_assoc]
end Plain
theorem fields_stamp : (Tryz.prog.fieldsOf 55).toList.map (fun f => (f.name == "_", f.type, f.offset)) = [(false, 3, 0), (false, 3, 1), (false, 3, 2)] := by kernel_rfl
theorem stp_eq (W : World) (x y : Stp) : (Op.equalIn 10000 55 (.agg (stV x).toArray) (.agg (stV y).toArray)).run Tryz.prog W = .ok (((x.ino == y.ino) && ((x.size == y.size) && ((x.time == y.time) && true)))) W := by
  obtain ⟨p, k, m⟩ := x
  obtain ⟨p', k', m'⟩ := y
  rw [run_equalIn_agg (d := 9999) _ _ _ _ (by kernel_rfl) (by kernel_rfl)]
  have hf := fields_stamp
  revert hf
  generalize (Tryz.prog.fieldsOf 55).toList = fs
  intro hf
  obtain ⟨f0, f1, f2, rfl⟩ : ∃ f0 f1 f2, fs = [f0, f1, f2] := by
    have hl : fs.length = 3 := by simpa using congrArg List.length hf
    clear hf
    match fs, hl with
    | [f0, f1, f2], _ => exact ⟨f0, f1, f2, rfl⟩
  simp only [List.map_cons, List.map_nil, List.cons.injEq, Prod.mk.injEq, and_true] at hf
  obtain ⟨⟨n0, t0, o0⟩, ⟨n1, t1, o1⟩, ⟨n2, t2, o2⟩⟩ := hf
  have hI := fun {xs : Array Value} {off : Nat} {v : Value} (hx : xs[off]? = some v) => part_cell (W := W) (ty := 3) Tryz.underlying3 rfl hx
  refine eqFields_step n0 (a := .int .i64 p) (b := .int .i64 p') (by rw [t0, o0]; exact hI rfl) (by rw [t0, o0]; exact hI rfl) (by rw [t0, run_equalIn_int (d := 9998) _ _ _ _ _ _ Tryz.underlying3]) ?_
  refine eqFields_step n1 (a := .int .i64 k) (b := .int .i64 k') (by rw [t1, o1]; exact hI rfl) (by rw [t1, o1]; exact hI rfl) (by rw [t1, run_equalIn_int (d := 9998) _ _ _ _ _ _ Tryz.underlying3]) ?_
  exact eqFields_step n2 (a := .int .i64 m) (b := .int .i64 m') (by rw [t2, o2]; exact hI rfl) (by rw [t2, o2]; exact hI rfl) (by rw [t2, run_equalIn_int (d := 9998) _ _ _ _ _ _ Tryz.underlying3]) rfl
theorem stp_neq (W : World) (x y : Stp) : (binOp .neq 55 (.agg (stV x).toArray) (.agg (stV y).toArray)).run Tryz.prog W = .ok (.bool (!(x == y))) W := by
  rw [run_neq_struct, stp_eq, Result.andThen_ok, stp_ne]
  simp only [Bool.and_true, Bool.and_assoc]

set_option maxHeartbeats 4000000 in
set_option maxRecDepth 100000 in
theorem rsame_any (a b : List Nd) (A B : Option Addr) (c d : Nat) (w : World) (ha : IsRows w 4 A (a.map ndV)) (hb : IsRows w 4 B (b.map ndV)) (hla : a.length ≤ 9223372036854775807) (hlb : b.length ≤ 9223372036854775807) :
    Calls Tryz.prog 19 #[.slice A a.length c, .slice B b.length d] w (Ret w (.bool (a == b))) := by
  by_cases hl : a.length = b.length
  · have HRES := Lib.hid (eq_rest hl)
    have HA := Lib.hid (fun W (h : Below w.heap.size w W) => ha.below h)
    have HB := Lib.hid (fun W (h : Below w.heap.size w W) => hb.below h)
    generalize (a == b) = res at *
    have HL := Lib.hid hl
    rw [← hl]
    clear ha hb hl
    go_enter Tryz.func19, Tryz.ntmps19
    go_wp2_with (fail)
    go_loopw [5] (fun t5 W => ∃ (i : Nat), i ≤ a.length ∧ t5 = .int .i64 i ∧ Hid (restOK (eqAt a b) i a.length = res) ∧ Hid (Below w.heap.size w W)) (fun t5 _ => a.length - (intOf t5).toNat)
    case atStart => exact ⟨0, by omega, rfl, HRES, Lib.hid (Below.refl _ _)⟩
    case round =>
      clear HRES
      obtain ⟨i, hi, rfl, HE, HW⟩ := hrel
      have i0 : (0 : Int) ≤ i := by omega
      by_cases hlt : i < a.length
      · have i1 : (i : Int) < a.length := by omega
        have e1 : IntKind.i64.wrap ((i : Int) + 1) = (i : Int) + 1 := IntWalk.i64_in _ (by omega)
        obtain ⟨ad, rfl, c0, c1, c2, c3⟩ := node_cells (HA.out _ HW.out) hlt
        obtain ⟨bd, rfl, d0, d1, d2, d3⟩ := node_cells (HB.out _ HW.out) (i := i) (by rw [← HL.out]; exact hlt)
        have hat := restOK_at (f := eqAt a b) hlt
        rw [HE.out] at hat
        rw [show eqAt a b i = (a.getD i default == b.getD i default) from rfl] at hat
        generalize a.getD i default = x at *
        generalize b.getD i default = y at *
        obtain ⟨p, k, dd, m⟩ := x
        obtain ⟨p', k', dd', m'⟩ := y
        simp only at c0 c1 c2 c3 d0 d1 d2 d3
        have HAT := Lib.hid hat
        clear hat
        cases hxy : (({ path := p, kind := k, data := dd, mode := m } : Nd) == { path := p', kind := k', data := dd', mode := m' }) with
        | false =>
          have HNE := fun W => node_neq W ⟨p, k, dd, m⟩ ⟨p', k', dd', m'⟩
          rw [hxy] at HNE
          unfold ndV at HNE
          simp only [Bool.not_false] at HNE
          have HRF := Lib.hid (show res = false by rw [HAT.out, hxy]; rfl)
          clear hxy
          go_wp2_with (fail)
          go_quiet (fail)
          go_wp2_with (fail)
          go_ret
          exact ⟨by rw [HRF.out]; first | rfl | simp, below_drewN HW.out _⟩
        | true =>
          have HNE := fun W => node_neq W ⟨p, k, dd, m⟩ ⟨p', k', dd', m'⟩
          rw [hxy] at HNE
          unfold ndV at HNE
          simp only [Bool.not_true] at HNE
          have HRF := Lib.hid (show restOK (eqAt a b) (i + 1) a.length = res by rw [HAT.out, hxy, Bool.true_and])
          clear hxy
          go_wp2_with (fail)
          go_quiet (fail)
          go_wp2_with (fail)
          go_roundw
          case rel => exact ⟨i + 1, by omega, by go_num, HRF, Lib.hid (below_drewN HW.out _)⟩
          case measure => simp [intOf]; omega
      · obtain rfl : i = a.length := by omega
        have i1 : decide ((a.length : Int) < (a.length : Int)) = false := by rw [decide_eq_false_iff_not]; omega
        have HE2 := Lib.hid (show res = true by rw [← HE.out, restOK_end])
        go_wp2_with (fail)
        go_ret
        exact ⟨by rw [HE2.out]; first | rfl | simp, HW.out⟩
  · have h1 : ((a.length : Int) == (b.length : Int)) = false := by
      rw [beq_eq_false_iff_ne]; omega
    have HRES := Lib.hid (show (a == b) = false by rw [beq_eq_false_iff_ne]; intro e; exact hl (by rw [e]))
    rw [HRES.out]
    clear hl
    go_enter Tryz.func19, Tryz.ntmps19
    go_wp2_with (fail)
    go_ret
    exact ⟨rfl, Below.refl _ _⟩

set_option maxHeartbeats 4000000 in
set_option maxRecDepth 100000 in
theorem rstamps_any (a b : List Stp) (A B : Option Addr) (c d : Nat) (w : World) (ha : IsRows w 3 A (a.map stV)) (hb : IsRows w 3 B (b.map stV)) (hla : a.length ≤ 9223372036854775807) (hlb : b.length ≤ 9223372036854775807) :
    Calls Tryz.prog 34 #[.slice A a.length c, .slice B b.length d] w (Ret w (.bool (a == b))) := by
  by_cases hl : a.length = b.length
  · have HRES := Lib.hid (eqS_rest hl)
    have HA := Lib.hid (fun W (h : Below w.heap.size w W) => ha.below h)
    have HB := Lib.hid (fun W (h : Below w.heap.size w W) => hb.below h)
    generalize (a == b) = res at *
    have HL := Lib.hid hl
    rw [← hl]
    clear ha hb hl
    go_enter Tryz.func34, Tryz.ntmps34
    go_wp2_with (fail)
    go_loopw [5] (fun t5 W => ∃ (i : Nat), i ≤ a.length ∧ t5 = .int .i64 i ∧ Hid (restOK (eqSAt a b) i a.length = res) ∧ Hid (Below w.heap.size w W)) (fun t5 _ => a.length - (intOf t5).toNat)
    case atStart => exact ⟨0, by omega, rfl, HRES, Lib.hid (Below.refl _ _)⟩
    case round =>
      clear HRES
      obtain ⟨i, hi, rfl, HE, HW⟩ := hrel
      have i0 : (0 : Int) ≤ i := by omega
      by_cases hlt : i < a.length
      · have i1 : (i : Int) < a.length := by omega
        have e1 : IntKind.i64.wrap ((i : Int) + 1) = (i : Int) + 1 := IntWalk.i64_in _ (by omega)
        obtain ⟨ad, rfl, c0, c1, c2⟩ := stp_cells (HA.out _ HW.out) hlt
        obtain ⟨bd, rfl, d0, d1, d2⟩ := stp_cells (HB.out _ HW.out) (i := i) (by rw [← HL.out]; exact hlt)
        have hat := restOK_at (f := eqSAt a b) hlt
        rw [HE.out] at hat
        rw [show eqSAt a b i = (a.getD i default == b.getD i default) from rfl] at hat
        generalize a.getD i default = x at *
        generalize b.getD i default = y at *
        obtain ⟨p, k, m⟩ := x
        obtain ⟨p', k', m'⟩ := y
        simp only at c0 c1 c2 d0 d1 d2
        have HAT := Lib.hid hat
        clear hat
        cases hxy : (({ ino := p, size := k, time := m } : Stp) == { ino := p', size := k', time := m' }) with
        | false =>
          have HNE := fun W => stp_neq W ⟨p, k, m⟩ ⟨p', k', m'⟩
          rw [hxy] at HNE
          unfold stV at HNE
          simp only [Bool.not_false] at HNE
          have HRF := Lib.hid (show res = false by rw [HAT.out, hxy]; rfl)
          clear hxy
          go_wp2_with (fail)
          go_quiet (fail)
          go_wp2_with (fail)
          go_ret
          exact ⟨by rw [HRF.out]; first | rfl | simp, below_drewN HW.out _⟩
        | true =>
          have HNE := fun W => stp_neq W ⟨p, k, m⟩ ⟨p', k', m'⟩
          rw [hxy] at HNE
          unfold stV at HNE
          simp only [Bool.not_true] at HNE
          have HRF := Lib.hid (show restOK (eqSAt a b) (i + 1) a.length = res by rw [HAT.out, hxy, Bool.true_and])
          clear hxy
          go_wp2_with (fail)
          go_quiet (fail)
          go_wp2_with (fail)
          go_roundw
          case rel => exact ⟨i + 1, by omega, by go_num, HRF, Lib.hid (below_drewN HW.out _)⟩
          case measure => simp [intOf]; omega
      · obtain rfl : i = a.length := by omega
        have i1 : decide ((a.length : Int) < (a.length : Int)) = false := by rw [decide_eq_false_iff_not]; omega
        have HE2 := Lib.hid (show res = true by rw [← HE.out, restOK_end])
        go_wp2_with (fail)
        go_ret
        exact ⟨by rw [HE2.out]; first | rfl | simp, HW.out⟩
  · have h1 : ((a.length : Int) == (b.length : Int)) = false := by
      rw [beq_eq_false_iff_ne]; omega
    have HRES := Lib.hid (show (a == b) = false by rw [beq_eq_false_iff_ne]; intro e; exact hl (by rw [e]))
    rw [HRES.out]
    clear hl
    go_enter Tryz.func34, Tryz.ntmps34
    go_wp2_with (fail)
    go_ret
    exact ⟨rfl, Below.refl _ _⟩


namespace Plain
def awA : Arc := ⟨[112], 3, [], []⟩
theorem awA_ok : checkA awA = true := by decide
theorem awA_small : Small awA := ⟨by decide, fun s hs => by cases hs⟩
theorem awA_enc : encodeA awA = (record (payA awA), 0) := by unfold encodeA; rw [awA_ok]; rfl
theorem awA_dec : decodeA (record (payA awA)) = (awA, 0) := decode_back awA_ok awA_small
end Plain
theorem nil_rows (w : World) (n : Nat) : IsRows w n none [] := fun k hk => absurd hk (by simp)

set_option maxHeartbeats 2000000 in
set_option maxRecDepth 100000 in
theorem aawake_any (m : Int) (w : World) (hL : Laid w m) : Calls Tryz.prog 7 #[] w (Ret w (.bool true)) := by
  have HE := Lib.hid (encode_any awA none 0 none 0 m w hL ⟨nil_rows _ _, nil_rows _ _, Nat.le_refl _, Nat.le_refl _, Nat.zero_le _, Nat.zero_le _, fun n hn => (by cases hn), by decide⟩ awA_small)
  have HD := Lib.hid (fun W (h : Below w.heap.size w W) => decode_any (record (payA awA)) m W (hL.below h) (by rw [record_length]; have := payA_length awA_ok; omega))
  rw [awA_enc] at HE
  rw [awA_dec] at HD
  simp only at HE
  generalize record (payA awA) = s at *
  clear hL
  go_enter Tryz.func7, Tryz.ntmps7
  go_wp2_with (fail)
  refine HE.out.mono ?_
  rintro e w1 ⟨rfl, hw1⟩
  have HB1 := Lib.hid hw1
  clear hw1
  go_wp2_with (fail)
  refine (HD.out _ HB1.out).mono ?_
  rintro e w2 ⟨A, c, B, d, rfl, -, hw2⟩
  have HB2 := Lib.hid (HB1.out.trans (hw2.mono HB1.out.size))
  clear hw2
  unfold arV awA
  go_wp2_with (fail)
  go_ret
  exact ⟨rfl, HB2.out.alloc HB2.out.size _⟩


set_option maxHeartbeats 2000000 in
set_option maxRecDepth 100000 in
theorem rarch_any (a b : Arc) (A : Option Addr) (c : Nat) (B : Option Addr) (d : Nat) (A' : Option Addr) (c' : Nat) (B' : Option Addr) (d' : Nat) (w : World) (hA : ArAt a A c B d w) (hB : ArAt b A' c' B' d' w) :
    Calls Tryz.prog 10 #[.agg (arV a A c B d).toArray, .agg (arV b A' c' B' d').toArray] w (Ret w (.bool ((a.pair == b.pair) && (a.serial == b.serial) && (a.tree == b.tree) && (a.stamps == b.stamps)))) := by
  have HSM := Lib.hid (fun W (h : Below w.heap.size w W) => rsame_any a.tree b.tree A A' c c' W (hA.rows.below h) (hB.rows.below h) hA.lenN hB.lenN)
  have HST := Lib.hid (fun W (h : Below w.heap.size w W) => rstamps_any a.stamps b.stamps B B' d d' W (hA.stps.below h) (hB.stps.below h) hA.lenS hB.lenS)
  obtain ⟨w0, hw0⟩ : ∃ w0, (w.alloc (.cells (arV a A c B d).toArray 26)).alloc (.cells (arV b A' c' B' d').toArray 26) = w0 := ⟨_, rfl⟩
  have HB0 := Lib.hid (show Below w.heap.size w w0 by rw [← hw0]; exact ((Below.refl w.heap.size w).alloc (Nat.le_refl _) _).alloc (by simp) _)
  have HS0 := Lib.hid (show w0.heap.size = w.heap.size + 2 by rw [← hw0]; simp)
  have HRA := Lib.hid (show w0.heap[w.heap.size]? = some (.cells (arV a A c B d).toArray 26 (0, 0)) by rw [← hw0, Below.heap_alloc _ _ _ (by simp)]; exact heap_alloc_new _ _)
  have HRB := Lib.hid (show w0.heap[w.heap.size + 1]? = some (.cells (arV b A' c' B' d').toArray 26 (0, 0)) by have := heap_alloc_new (w.alloc (.cells (arV a A c B d).toArray 26)) (.cells (arV b A' c' B' d').toArray 26); rw [← hw0]; simpa using this)
  have HW0 := Lib.hid hw0
  clear hA hB hw0
  obtain ⟨pair, serial, tree, stamps⟩ := a
  obtain ⟨pair', serial', tree', stamps'⟩ := b
  unfold arV at *
  simp only at HSM HST HRA HRB HW0 ⊢
  generalize (tree == tree') = bt at *
  generalize (stamps == stamps') = bs at *
  cases hpp : (pair == pair') with
  | false =>
    simp only [Bool.false_and]
    go_enter Tryz.func10, Tryz.ntmps10
    go_upto_region 1 with (fail)
    rw [HW0.out]
    have ta0 := cell_of_row w0 _ 0 _ _ _ HRA.out; have tb0 := cell_of_row w0 _ 0 _ _ _ HRB.out; have ta1 := cell_of_row w0 _ 1 _ _ _ HRA.out; have tb1 := cell_of_row w0 _ 1 _ _ _ HRB.out; have ta2 := cell_of_row w0 _ 2 _ _ _ HRA.out; have tb2 := cell_of_row w0 _ 2 _ _ _ HRB.out; have ta3 := cell_of_row w0 _ 3 _ _ _ HRA.out; have tb3 := cell_of_row w0 _ 3 _ _ _ HRB.out
    go_wp2_with (fail)
    go_ret
    exact ⟨rfl, HB0.out⟩
  | true =>
  cases hss : (serial == serial') with
  | false =>
    simp only [Bool.false_and, Bool.and_false]
    go_enter Tryz.func10, Tryz.ntmps10
    go_upto_region 1 with (fail)
    rw [HW0.out]
    have ta0 := cell_of_row w0 _ 0 _ _ _ HRA.out; have tb0 := cell_of_row w0 _ 0 _ _ _ HRB.out; have ta1 := cell_of_row w0 _ 1 _ _ _ HRA.out; have tb1 := cell_of_row w0 _ 1 _ _ _ HRB.out; have ta2 := cell_of_row w0 _ 2 _ _ _ HRA.out; have tb2 := cell_of_row w0 _ 2 _ _ _ HRB.out; have ta3 := cell_of_row w0 _ 3 _ _ _ HRA.out; have tb3 := cell_of_row w0 _ 3 _ _ _ HRB.out
    go_wp2_with (fail)
    go_ret
    exact ⟨rfl, HB0.out⟩
  | true =>
  simp only [Bool.true_and]
  cases bt with
  | false =>
    simp only [Bool.false_and]
    go_enter Tryz.func10, Tryz.ntmps10
    go_upto_region 1 with (fail)
    rw [HW0.out]
    have ta0 := cell_of_row w0 _ 0 _ _ _ HRA.out; have tb0 := cell_of_row w0 _ 0 _ _ _ HRB.out; have ta1 := cell_of_row w0 _ 1 _ _ _ HRA.out; have tb1 := cell_of_row w0 _ 1 _ _ _ HRB.out; have ta2 := cell_of_row w0 _ 2 _ _ _ HRA.out; have tb2 := cell_of_row w0 _ 2 _ _ _ HRB.out; have ta3 := cell_of_row w0 _ 3 _ _ _ HRA.out; have tb3 := cell_of_row w0 _ 3 _ _ _ HRB.out
    go_wp2_with (fail)
    refine (HSM.out _ HB0.out).mono ?_
    rintro e w1 ⟨rfl, hw1⟩
    go_wp2_with (fail)
    go_ret
    exact ⟨rfl, HB0.out.trans (hw1.mono HB0.out.size)⟩
  | true =>
    simp only [Bool.true_and]
    go_enter Tryz.func10, Tryz.ntmps10
    go_upto_region 1 with (fail)
    rw [HW0.out]
    have ta0 := cell_of_row w0 _ 0 _ _ _ HRA.out; have tb0 := cell_of_row w0 _ 0 _ _ _ HRB.out; have ta1 := cell_of_row w0 _ 1 _ _ _ HRA.out; have tb1 := cell_of_row w0 _ 1 _ _ _ HRB.out; have ta2 := cell_of_row w0 _ 2 _ _ _ HRA.out; have tb2 := cell_of_row w0 _ 2 _ _ _ HRB.out; have ta3 := cell_of_row w0 _ 3 _ _ _ HRA.out; have tb3 := cell_of_row w0 _ 3 _ _ _ HRB.out
    go_wp2_with (fail)
    refine (HSM.out _ HB0.out).mono ?_
    rintro e w1 ⟨rfl, hw1⟩
    have HB1 := Lib.hid (HB0.out.trans (hw1.mono HB0.out.size))
    have r3 := cell_of_row w1 _ 3 _ _ _ ((hw1.block _ (lt_of_heap HRA.out)).trans HRA.out)
    have s3 := cell_of_row w1 _ 3 _ _ _ ((hw1.block _ (lt_of_heap HRB.out)).trans HRB.out)
    clear hw1 ta0 ta1 ta2 ta3 tb0 tb1 tb2 tb3
    go_wp2_with (fail)
    refine (HST.out _ HB1.out).mono ?_
    rintro e w2 ⟨rfl, hw2⟩
    go_wp2_with (fail)
    go_ret
    exact ⟨rfl, HB1.out.trans (hw2.mono HB1.out.size)⟩
end Go.Proofs.YtjajoiahgfafgaaGreatDoor
end

/- Two slices of the call's own that grow side by side: append tells where its result lies. -/
section
namespace Go.Proofs.YtjajoiahgfafgaaGreatDoor
open Go.RowKit

theorem own_base {w : World} {base base' : Nat} {e : TypeId} {size n : Nat} {v : Value} {xs : List Value} (h : w.ownsRow base e size v n xs) (hb : base' ≤ base) : w.ownsRow base' e size v n xs :=
  ⟨h.1, h.2.imp id fun ⟨g, cap, cur, hv, hg, hr⟩ => ⟨g, cap, cur, hv, Nat.le_trans hb hg, hr⟩⟩

/-- v' lies where v lay, or in a block that is new. -/
def Lies (w : World) (v v' : Value) : Prop := ∀ k, v'.ownBlock = some k → v.ownBlock = some k ∨ w.heap.size ≤ k
/-- no block holds both -/
def Apart (v u : Value) : Prop := ∀ k, v.ownBlock = some k → u.ownBlock ≠ some k
theorem Apart.symm {v u : Value} (h : Apart v u) : Apart u v := fun k hu hv => h k hv hu
theorem Apart.nil (u : Value) (n c : Nat) : Apart (.slice none n c) u := fun k h => by cases h
theorem Apart.lies {w : World} {v v' u : Value} {base : Nat} {e : TypeId} {size n : Nat} {xs : List Value} (h : Apart v u) (hl : Lies w v v') (hu : w.ownsRow base e size u n xs) : Apart v' u := by
  intro k hk he
  rcases hl k hk with h1 | h1
  · exact h k h1 he
  · have := (hu.lt k he).2; omega
theorem Apart.kept {w w' : World} {v u : Value} {base : Nat} {e : TypeId} {size n : Nat} {xs : List Value} (h : Apart v u) (hu : w.ownsRow base e size u n xs) (hg : w.grownBy w' v.ownBlock) : w'.ownsRow base e size u n xs :=
  hu.kept hg (by
    cases hv : u.ownBlock with
    | none => exact .inl rfl
    | some k => exact .inr (fun e => h k e.symm hv))

theorem wpList_append_two {P : Program} {w : World} {ops : Array Oper} {rest : List Oper} {o : Oper} {a : Act} {Q : Exit → Act → World → Prop} (hgd : o.guard = none) (s x : Operand) (t : TypeId)
    (ho : o.op = .call { callee := .builtin .append, args := #[s, x], argTypes := #[t, t] })
    (base : Nat) (e : TypeId) (i : TypeInfo) (z : Value) (size bytes : Nat) (ht : P.underlying t = some (.slice e)) (hi : P.info? e = some i) (hz : i.zero = some z)
    (hsize : i.size = size) (hby : i.bytes = bytes) (hzs : z.cells.size = size) (hsz : 0 < size)
    (v : Value) (n : Nat) (xs : List Value) (hs : a.eval s = v) (hown : w.ownsRow base e size v n xs)
    (ad : Addr) (m c : Nat) (news : List Value) (hx : a.eval x = .slice (some ad) m c) (hl : news.length = m * size) (hnews : ∀ j u, news[j]? = some u → w.cell? (ad.add j) = some u) (h1 : ∀ u ∈ news, u.oneCell' = true)
    (h63 : n + m ≤ maxLen) (hbytes : (n + m) * bytes ≤ 140737488355328) (hbase : base ≤ w.heap.size)
    (h : ∀ v' w', w'.ownsRow base e size v' (n + m) (xs ++ news) → w.grownBy w' v.ownBlock → Lies w v v' → wpList P ops Q rest (a.put o.dst v') w') : wpList P ops Q (o :: rest) a w := by
  rcases hown.2 with ⟨hv, hn⟩ | ⟨g, cap, cur, hv, hbg, hg, hnc, hcm, hcs, htake⟩
  · subst hv
    subst hn
    have hx0 : xs = [] := List.eq_nil_of_length_eq_zero (by simpa using hown.1)
    subst hx0
    exact wpList_append_own w hgd s x t ho w.heap.size e i z size bytes ht hi hz hsize hby hzs hsz _ _ _ hs (World.ownsRow_nil _ _ _ _) ad m c news hx hl hnews h1 h63 hbytes (Nat.le_refl _)
      fun v' w' h2 h3 _ => h v' w' (own_base h2 hbase) h3 (fun k hk => .inr (h2.lt k hk).1)
  · subst hv
    by_cases hroom : n + m ≤ cap
    · exact wpList_append_fits w hgd s x t ho base e i size ht hi hsize g n cap xs hs hown ad m c news hx hl hnews h1 hroom fun w' h2 h3 => h _ w' h2 h3 (fun k hk => .inl hk)
    · exact wpList_append_grows w hgd s x t ho e i z size bytes ht hi hz hsize hby hzs hsz (some ⟨g, 0, none⟩) n cap xs hs (fun e => by cases e) hown.1 (fun b hb j u hu => by
        injection hb with hb
        subst hb
        exact hown.cells (g := g) rfl j u hu) ad m c news hx hl hnews h1 (by omega) h63 hbytes
        fun v' w' h2 h3 => h v' w' (own_base h2 hbase) ⟨h3.os, h3.tape, h3.output, h3.size, fun k hk _ => h3.block k hk (by simp)⟩ (fun k hk => .inr (h2.lt k hk).1)
end Go.Proofs.YtjajoiahgfafgaaGreatDoor
end

/- append(s, x...): a slice (it may be nil) behind a row of the call's own. -/
section
namespace Go.Proofs.YtjajoiahgfafgaaGreatDoor
open Go.RowKit

theorem wpList_append_slice {P : Program} {w : World} {ops : Array Oper} {rest : List Oper} {o : Oper} {a : Act} {Q : Exit → Act → World → Prop} (hgd : o.guard = none) (s x : Operand) (t : TypeId)
    (ho : o.op = .call { callee := .builtin .append, args := #[s, x], argTypes := #[t, t] })
    (base : Nat) (e : TypeId) (i : TypeInfo) (z : Value) (size bytes : Nat) (ht : P.underlying t = some (.slice e)) (hi : P.info? e = some i) (hz : i.zero = some z)
    (hsize : i.size = size) (hby : i.bytes = bytes) (hzs : z.cells.size = size) (hsz : 0 < size)
    (A : Option Addr) (n cap : Nat) (xs : List Value) (hs : a.eval s = .slice A n cap) (hown : w.ownsRow base e size (.slice A n cap) n xs)
    (X : Option Addr) (m c : Nat) (news : List Value) (hx : a.eval x = .slice X m c) (hl : Reads w size X m news) (h1 : ∀ u ∈ news, u.oneCell' = true)
    (h63 : n + m ≤ maxLen) (hbytes : (n + m) * bytes ≤ 140737488355328) (hbase : base ≤ w.heap.size)
    (h : ∀ A' cap' w', w'.ownsRow base e size (.slice A' (n + m) cap') (n + m) (xs ++ news) → w.grownBy w' (Value.slice A n cap).ownBlock → wpList P ops Q rest (a.put o.dst (.slice A' (n + m) cap')) w') : wpList P ops Q (o :: rest) a w := by
  cases X with
  | none =>
    have hm : m = 0 := by
      rcases Nat.eq_zero_or_pos m with h0 | h0
      · exact h0
      · obtain ⟨ad, e, -⟩ := hl.2 h0; cases e
    subst hm
    have hn : news = [] := List.eq_nil_of_length_eq_zero (by have := hl.1; simpa using this)
    subst hn
    have hle : n ≤ cap := by
      rcases hown.2 with ⟨hv, h0⟩ | ⟨g, cp, cur, hv, _, _, hc, _⟩
      · omega
      · injection hv with h1 h2 h3; omega
    have hr := run_append_nothing w t t o.type e i ht hi A n cap hle (.slice none 0 c) (Src.ofNil w ht c)
    have h2 := h A cap w (by rw [List.append_nil]; exact hown) (gb_refl w _)
    refine wpList_plain hgd fun _ hK => ?_
    unfold Oper.wp execOp
    simp only [ho, resolve, invoke, builtin, Sem.run_bind, Sem.run_pure, Result.andThen_ok, List.map_toArray, List.map_cons, List.map_nil, hs, hx, hr]
    exact hK _ _ h2
  | some ad =>
    by_cases hm : 0 < m
    · obtain ⟨ad', e1, hc⟩ := hl.2 hm
      injection e1 with e1
      subst e1
      refine wpList_append_two hgd s x t ho base e i z size bytes ht hi hz hsize hby hzs hsz _ n xs hs hown ad m c news hx hl.1 hc h1 h63 hbytes hbase fun v' w' h2 h3 _ => ?_
      obtain ⟨A', c', rfl, -⟩ := IsSlice.of_own h2
      exact h A' c' w' h2 h3
    · have hm0 : m = 0 := by omega
      subst hm0
      have hn : news = [] := List.eq_nil_of_length_eq_zero (by have := hl.1; simpa using this)
      subst hn
      refine wpList_append_two hgd s x t ho base e i z size bytes ht hi hz hsize hby hzs hsz _ n xs hs hown ad 0 c [] hx (by simp) (fun j u hu => by simp at hu) h1 h63 hbytes hbase fun v' w' h2 h3 _ => ?_
      obtain ⟨A', c', rfl, -⟩ := IsSlice.of_own h2
      exact h A' c' w' h2 h3
end Go.Proofs.YtjajoiahgfafgaaGreatDoor
end

/- Words turned; what the 64 rounds make of a block. -/
section
namespace Go.Proofs.YtjajoiahgfafgaaGreatDoor
open Go.RowKit Plain

set_option maxHeartbeats 400000 in
theorem rotl_any (x : UInt32) (k : Int) (n m : Nat) (w : World) (h1 : Go.bits .and .u64 (IntKind.u64.wrap k) 31 = (m : Int)) (hn : 1 ≤ n) (hm : m + n = 32) (hm1 : 1 ≤ m) :
    Calls Tryz.prog 100 #[.int .u32 (V x), .int .i64 k] w fun e w' => e = .returned (.int .u32 (V (rotr x (UInt32.ofNat n)))) ∧ w' = w := by
  have hx := V_lt x
  have b1 : 0 ≤ (m : Int) := by omega
  have b2 : (m : Int) < 32 := by omega
  go_enter Tryz.func100, Tryz.ntmps100
  go_wp2_with (fail)
  go_ret
  exact ⟨ret_int (by simpa using rot_eq x n m hn hm hm1), rfl⟩

theorem rotl_7 (x : UInt32) (w : World) : Calls Tryz.prog 100 #[.int .u32 (V x), .int .i64 (-7)] w fun e w' => e = .returned (.int .u32 (V (rotr x 7))) ∧ w' = w :=
  rotl_any x (-7) 7 25 w (by decide) (by decide) (by decide) (by decide)
theorem rotl_18 (x : UInt32) (w : World) : Calls Tryz.prog 100 #[.int .u32 (V x), .int .i64 (-18)] w fun e w' => e = .returned (.int .u32 (V (rotr x 18))) ∧ w' = w :=
  rotl_any x (-18) 18 14 w (by decide) (by decide) (by decide) (by decide)
theorem rotl_17 (x : UInt32) (w : World) : Calls Tryz.prog 100 #[.int .u32 (V x), .int .i64 (-17)] w fun e w' => e = .returned (.int .u32 (V (rotr x 17))) ∧ w' = w :=
  rotl_any x (-17) 17 15 w (by decide) (by decide) (by decide) (by decide)
theorem rotl_19 (x : UInt32) (w : World) : Calls Tryz.prog 100 #[.int .u32 (V x), .int .i64 (-19)] w fun e w' => e = .returned (.int .u32 (V (rotr x 19))) ∧ w' = w :=
  rotl_any x (-19) 19 13 w (by decide) (by decide) (by decide) (by decide)
theorem rotl_2 (x : UInt32) (w : World) : Calls Tryz.prog 100 #[.int .u32 (V x), .int .i64 (-2)] w fun e w' => e = .returned (.int .u32 (V (rotr x 2))) ∧ w' = w :=
  rotl_any x (-2) 2 30 w (by decide) (by decide) (by decide) (by decide)
theorem rotl_13 (x : UInt32) (w : World) : Calls Tryz.prog 100 #[.int .u32 (V x), .int .i64 (-13)] w fun e w' => e = .returned (.int .u32 (V (rotr x 13))) ∧ w' = w :=
  rotl_any x (-13) 13 19 w (by decide) (by decide) (by decide) (by decide)
theorem rotl_22 (x : UInt32) (w : World) : Calls Tryz.prog 100 #[.int .u32 (V x), .int .i64 (-22)] w fun e w' => e = .returned (.int .u32 (V (rotr x 22))) ∧ w' = w :=
  rotl_any x (-22) 22 10 w (by decide) (by decide) (by decide) (by decide)
theorem rotl_6 (x : UInt32) (w : World) : Calls Tryz.prog 100 #[.int .u32 (V x), .int .i64 (-6)] w fun e w' => e = .returned (.int .u32 (V (rotr x 6))) ∧ w' = w :=
  rotl_any x (-6) 6 26 w (by decide) (by decide) (by decide) (by decide)
theorem rotl_11 (x : UInt32) (w : World) : Calls Tryz.prog 100 #[.int .u32 (V x), .int .i64 (-11)] w fun e w' => e = .returned (.int .u32 (V (rotr x 11))) ∧ w' = w :=
  rotl_any x (-11) 11 21 w (by decide) (by decide) (by decide) (by decide)
theorem rotl_25 (x : UInt32) (w : World) : Calls Tryz.prog 100 #[.int .u32 (V x), .int .i64 (-25)] w fun e w' => e = .returned (.int .u32 (V (rotr x 25))) ∧ w' = w :=
  rotl_any x (-25) 25 7 w (by decide) (by decide) (by decide) (by decide)

attribute [local go_sem] V_xor V_and V_or V_not V_add V_add3 V_add4 V_shr3 V_shr10

/-- The eight words, and a row of words, as cells. -/
def cells8 (v : S8) : Array Value := #[.int .u32 (V v.a), .int .u32 (V v.b), .int .u32 (V v.c), .int .u32 (V v.d), .int .u32 (V v.e), .int .u32 (V v.f), .int .u32 (V v.g), .int .u32 (V v.h)]
def wordsV (l : List UInt32) : List Value := l.map fun x => .int .u32 (V x)

theorem heap_set_ne' {w : World} {b c : Nat} (h : c ≠ b) (k : Nat) (v : Value) : (w.setCell ⟨b, k, none⟩ v).heap[c]? = w.heap[c]? := by
  simp only [World.setCell, Array.getElem?_modify]
  rw [if_neg (fun e => h e.symm)]
/-- The worlds of hash.round: block B the state that came in, B + 1 the result, B + 2 the constants, B + 3 the words. -/
structure Rnd (w wr : World) (h : S8) (C : Array Value) : Prop where
  b0 : wr.heap[w.heap.size]? = some (.cells (cells8 h) 109 (0, 0))
  b1 : wr.heap[w.heap.size + 1]? = some (.cells (cells8 ⟨0, 0, 0, 0, 0, 0, 0, 0⟩) 109 (0, 0))
  b2 : wr.heap[w.heap.size + 2]? = some (.cells (wordsV KK).toArray 132 (0, 0))
  b3 : wr.heap[w.heap.size + 3]? = some (.cells C 132 (0, 0))
  size : wr.heap.size = w.heap.size + 4
  below : Below w.heap.size w wr

structure Rnd1 (w wr : World) (h : S8) : Prop where
  b0 : wr.heap[w.heap.size]? = some (.cells (cells8 h) 109 (0, 0))
  b1 : wr.heap[w.heap.size + 1]? = some (.cells (cells8 ⟨0, 0, 0, 0, 0, 0, 0, 0⟩) 109 (0, 0))
  b2 : wr.heap[w.heap.size + 2]? = some (.cells (wordsV KK).toArray 132 (0, 0))
  size : wr.heap.size = w.heap.size + 3
  below : Below w.heap.size w wr

theorem info64 : (Tryz.prog.info? 132).map (·.size) = some 64 := by kernel_rfl
theorem wordsV_length (l : List UInt32) : (wordsV l).length = l.length := by simp [wordsV]
theorem wordsV_oneCell (l : List UInt32) : (wordsV l).toArray.all (·.oneCell') = true := by
  refine all_oneCell_toArray fun v hv => ?_
  simp only [wordsV, List.mem_map] at hv
  obtain ⟨x, _, rfl⟩ := hv
  rfl
theorem KK_length : KK.length = 64 := rfl

theorem rnd1_of (w : World) (h : S8) (Z : Array Value) (w' : World)
    (hg : ((((w.alloc (.cells (cells8 h) 109)).alloc (.cells (cells8 ⟨0, 0, 0, 0, 0, 0, 0, 0⟩) 109)).alloc (.cells Z 132))).grownBy w' (some (w.heap.size + 1 + 1)))
    (hs : w'.heap.size = w.heap.size + 1 + 1 + 1)
    (hb : w'.heap[w.heap.size + 1 + 1]? = some (.cells (wordsV KK).toArray 132 (0, 0))) : Rnd1 w w' h := by
  have h0 : (((w.alloc (.cells (cells8 h) 109)).alloc (.cells (cells8 ⟨0, 0, 0, 0, 0, 0, 0, 0⟩) 109)).alloc (.cells Z 132)).heap[w.heap.size]? = some (.cells (cells8 h) 109 (0, 0)) := by
    rw [Below.heap_alloc _ _ _ (by simp; omega), Below.heap_alloc _ _ _ (by simp)]; exact heap_alloc_new _ _
  have h1 : (((w.alloc (.cells (cells8 h) 109)).alloc (.cells (cells8 ⟨0, 0, 0, 0, 0, 0, 0, 0⟩) 109)).alloc (.cells Z 132)).heap[w.heap.size + 1]? = some (.cells (cells8 ⟨0, 0, 0, 0, 0, 0, 0, 0⟩) 109 (0, 0)) := by
    rw [Below.heap_alloc _ _ _ (by simp)]; simpa using heap_alloc_new (w.alloc (.cells (cells8 h) 109)) _
  refine ⟨(hg.block _ (by first | (simp; done) | (simp; omega)) (fun e => by have := Option.some.inj e; omega)).trans h0, (hg.block _ (by first | (simp; done) | (simp; omega)) (fun e => by have := Option.some.inj e; omega)).trans h1, hb, hs, ?_⟩
  exact below_gb (B := w.heap.size) ((((Below.refl _ _).alloc (Nat.le_refl _) _).alloc (by simp) _).alloc (by rw [World.size_alloc, World.size_alloc]; omega) _) (by rw [World.size_alloc, World.size_alloc, World.size_alloc]; omega) hg (by omega)

theorem Rnd1.next {w wr : World} {h : S8} (hr : Rnd1 w wr h) (C : Array Value) : Rnd w (wr.alloc (.cells C 132)) h C :=
  ⟨heap_old' hr.b0, heap_old' hr.b1, heap_old' hr.b2, heap_new' _ _ _ hr.size, by simp [hr.size], hr.below.alloc (by rw [hr.size]; omega) _⟩

theorem Rnd.set {w wr : World} {h : S8} {C : Array Value} (hr : Rnd w wr h C) (k : Nat) (v : Value) : Rnd w (wr.setCell ⟨w.heap.size + 3, k, none⟩ v).drew h (C.setIfInBounds k v) := by
  have hs : ∀ j, j ≠ w.heap.size + 3 → (wr.setCell ⟨w.heap.size + 3, k, none⟩ v).drew.heap[j]? = wr.heap[j]? := fun j hj => by
    simp only [World.drew, World.setCell, Array.getElem?_modify]
    rw [if_neg (fun e => hj e.symm)]
  refine ⟨(hs _ (by omega)).trans hr.b0, (hs _ (by omega)).trans hr.b1, (hs _ (by omega)).trans hr.b2, heap_set hr.b3 k v, ?_, (hr.below.setCell (p := ⟨w.heap.size + 3, k, none⟩) (by show w.heap.size ≤ w.heap.size + 3; omega) v).drew⟩
  simp [World.drew, World.setCell, hr.size]
theorem Rnd.drew {w wr : World} {h : S8} {C : Array Value} (hr : Rnd w wr h C) : Rnd w wr.drew h C := ⟨hr.b0, hr.b1, hr.b2, hr.b3, hr.size, hr.below.drew⟩
theorem Rnd.drewN {w wr : World} {h : S8} {C : Array Value} (hr : Rnd w wr h C) (n : Nat) : Rnd w (wr.drewN n) h C := ⟨hr.b0, hr.b1, hr.b2, hr.b3, hr.size, below_drewN hr.below n⟩
theorem wordsV_get {l : List UInt32} (i : Nat) (h : i < l.length) : (wordsV l).toArray[i]? = some (.int .u32 (V (l.getD i 0))) := by
  simp [wordsV, h]
/-- The worlds of the third loop: block B + 4 the words at hand. -/
structure Rnd2 (w wr : World) (h : S8) (C : Array Value) (v : S8) : Prop where
  b0 : wr.heap[w.heap.size]? = some (.cells (cells8 h) 109 (0, 0))
  b1 : wr.heap[w.heap.size + 1]? = some (.cells (cells8 ⟨0, 0, 0, 0, 0, 0, 0, 0⟩) 109 (0, 0))
  b2 : wr.heap[w.heap.size + 2]? = some (.cells (wordsV KK).toArray 132 (0, 0))
  b3 : wr.heap[w.heap.size + 3]? = some (.cells C 132 (0, 0))
  b4 : wr.heap[w.heap.size + 4]? = some (.cells (cells8 v) 109 (0, 0))
  below : Below w.heap.size w wr
theorem Rnd.next {w wr : World} {h : S8} {C : Array Value} (hr : Rnd w wr h C) (v : S8) : Rnd2 w (wr.alloc (.cells (cells8 v) 109)) h C v :=
  ⟨heap_old' hr.b0, heap_old' hr.b1, heap_old' hr.b2, heap_old' hr.b3, heap_new' _ _ _ hr.size, hr.below.alloc (by rw [hr.size]; omega) _⟩
theorem Rnd2.drewN {w wr : World} {h v : S8} {C : Array Value} (hr : Rnd2 w wr h C v) (n : Nat) : Rnd2 w (wr.drewN n) h C v := ⟨hr.b0, hr.b1, hr.b2, hr.b3, hr.b4, below_drewN hr.below n⟩
theorem Rnd2.facts {w wr : World} {h : S8} {C : Array Value} {va vb vc vd ve vf vg vh : UInt32} (hr : Rnd2 w wr h C ⟨va, vb, vc, vd, ve, vf, vg, vh⟩) :
    wr.cell? ⟨w.heap.size + 1 + 1 + 1 + 1, 0, none⟩ = some (.int .u32 (V va)) ∧ wr.cell? ⟨w.heap.size + 1 + 1 + 1 + 1, 1, none⟩ = some (.int .u32 (V vb)) ∧
    wr.cell? ⟨w.heap.size + 1 + 1 + 1 + 1, 2, none⟩ = some (.int .u32 (V vc)) ∧ wr.cell? ⟨w.heap.size + 1 + 1 + 1 + 1, 3, none⟩ = some (.int .u32 (V vd)) ∧
    wr.cell? ⟨w.heap.size + 1 + 1 + 1 + 1, 4, none⟩ = some (.int .u32 (V ve)) ∧ wr.cell? ⟨w.heap.size + 1 + 1 + 1 + 1, 5, none⟩ = some (.int .u32 (V vf)) ∧
    wr.cell? ⟨w.heap.size + 1 + 1 + 1 + 1, 6, none⟩ = some (.int .u32 (V vg)) ∧ wr.cell? ⟨w.heap.size + 1 + 1 + 1 + 1, 7, none⟩ = some (.int .u32 (V vh)) := by
  refine ⟨?_, ?_, ?_, ?_, ?_, ?_, ?_, ?_⟩ <;> (rw [cell_of_row wr (w.heap.size + 1 + 1 + 1 + 1) _ _ 109 (0, 0) hr.b4]; rfl)
theorem Rnd2.all {w wr : World} {h : S8} {C : Array Value} {b : List UInt8} {v : S8} (hr : Rnd2 w wr h C v) (hC : ∀ j, j < 64 → C[j]? = some (.int .u32 (V (WW b j)))) (i : Nat) (hi : i < 64) :
    wr.cell? ⟨w.heap.size + 1 + 1 + 1, i, none⟩ = some (.int .u32 (V (WW b i))) ∧ wr.cell? ⟨w.heap.size + 1 + 1, i, none⟩ = some (.int .u32 (V (KK.getD i 0))) ∧
    wr.cell? ⟨w.heap.size + 1 + 1 + 1 + 1, 0, none⟩ = some (.int .u32 (V v.a)) ∧ wr.cell? ⟨w.heap.size + 1 + 1 + 1 + 1, 1, none⟩ = some (.int .u32 (V v.b)) ∧
    wr.cell? ⟨w.heap.size + 1 + 1 + 1 + 1, 2, none⟩ = some (.int .u32 (V v.c)) ∧ wr.cell? ⟨w.heap.size + 1 + 1 + 1 + 1, 3, none⟩ = some (.int .u32 (V v.d)) ∧
    wr.cell? ⟨w.heap.size + 1 + 1 + 1 + 1, 4, none⟩ = some (.int .u32 (V v.e)) ∧ wr.cell? ⟨w.heap.size + 1 + 1 + 1 + 1, 5, none⟩ = some (.int .u32 (V v.f)) ∧
    wr.cell? ⟨w.heap.size + 1 + 1 + 1 + 1, 6, none⟩ = some (.int .u32 (V v.g)) ∧ wr.cell? ⟨w.heap.size + 1 + 1 + 1 + 1, 7, none⟩ = some (.int .u32 (V v.h)) :=
  ⟨by rw [cell_of_row wr (w.heap.size + 1 + 1 + 1) i C 132 (0, 0) hr.b3]; exact hC i hi,
   by rw [cell_of_row wr (w.heap.size + 1 + 1) i _ 132 (0, 0) hr.b2]; exact wordsV_get i (by rw [KK_length]; exact hi), Rnd2.facts hr⟩
theorem Rnd2.put {w wr w' : World} {h v : S8} {C : Array Value} (hr : Rnd2 w wr h C v) (hg : wr.grownBy w' (some (w.heap.size + 4))) (u : S8) (hb : w'.heap[w.heap.size + 4]? = some (.cells (cells8 u) 109 (0, 0))) : Rnd2 w w' h C u := by
  have hs : ∀ j x, j ≠ w.heap.size + 4 → wr.heap[j]? = some x → w'.heap[j]? = some x := fun j x hj hx => (hg.block j (Array.getElem?_eq_some_iff.1 hx).1 (fun e => hj (Option.some.inj e))).trans hx
  exact ⟨hs _ _ (by omega) hr.b0, hs _ _ (by omega) hr.b1, hs _ _ (by omega) hr.b2, hs _ _ (by omega) hr.b3, hb, below_gb hr.below hr.below.size hg (by omega)⟩
theorem info8 : (Tryz.prog.info? 109).map (·.size) = some 8 := by kernel_rfl
theorem cells8_size (v : S8) : (cells8 v).size = 8 := rfl
theorem oneCell8 (v : S8) : ∀ (i : Nat) (h : i < (cells8 v).size), (cells8 v)[i].oneCell' = true := by
  intro i h
  have h8 : i < 8 := h
  match i, h8 with
  | 0, _ => rfl
  | 1, _ => rfl
  | 2, _ => rfl
  | 3, _ => rfl
  | 4, _ => rfl
  | 5, _ => rfl
  | 6, _ => rfl
  | 7, _ => rfl
  | j + 8, h => omega
theorem cells8_step (a b c d e f g h k x : UInt32) : #[Value.int .u32 (V (h + (rotr e 6 ^^^ rotr e 11 ^^^ rotr e 25) + (e &&& f ^^^ ~~~e &&& g) + k + x + ((rotr a 2 ^^^ rotr a 13 ^^^ rotr a 22) + (a &&& b ^^^ a &&& c ^^^ b &&& c)))), .int .u32 (V a), .int .u32 (V b), .int .u32 (V c),
    .int .u32 (V (d + (h + (rotr e 6 ^^^ rotr e 11 ^^^ rotr e 25) + (e &&& f ^^^ ~~~e &&& g) + k + x))), .int .u32 (V e), .int .u32 (V f), .int .u32 (V g)] = cells8 (Plain.step ⟨a, b, c, d, e, f, g, h⟩ k x) := by
  unfold cells8 Plain.step Sig0 Sig1 ch maj
  rfl
theorem set_get {C : Array Value} {k : Nat} {v : Value} {P : Nat → Value} (hk : k < C.size) (hv : v = P k) (h : ∀ j, j < k → C[j]? = some (P j)) : ∀ j, j < k + 1 → (C.setIfInBounds k v)[j]? = some (P j) := by
  intro j hj
  by_cases e : j = k
  · subst e; rw [Array.getElem?_setIfInBounds_self_of_lt hk, hv]
  · rw [Array.getElem?_setIfInBounds_ne (Ne.symm e)]; exact h j (by omega)

/-- the j-th of the eight -/
def at8 (v : S8) (j : Nat) : UInt32 := match j with | 0 => v.a | 1 => v.b | 2 => v.c | 3 => v.d | 4 => v.e | 5 => v.f | 6 => v.g | _ => v.h
theorem cells8_get (v : S8) (j : Nat) (h : j < 8) : (cells8 v)[j]? = some (.int .u32 (V (at8 v j))) := by
  match j, h with
  | 0, _ => rfl
  | 1, _ => rfl
  | 2, _ => rfl
  | 3, _ => rfl
  | 4, _ => rfl
  | 5, _ => rfl
  | 6, _ => rfl
  | 7, _ => rfl
  | j + 8, h => omega
theorem at8_add (v h : S8) (j : Nat) : at8 (add8 v h) j = at8 v j + at8 h j := by
  unfold at8 add8
  split <;> rfl
theorem cells8_ext (D : Array Value) (v : S8) (hD : D.size = 8) (h : ∀ j, j < 8 → D[j]? = some (.int .u32 (V (at8 v j)))) : D = cells8 v := by
  apply Array.ext_getElem?
  intro i
  by_cases hi : i < 8
  · rw [h i hi, cells8_get v i hi]
  · rw [Array.getElem?_eq_none (by omega), Array.getElem?_eq_none (by show 8 ≤ i; omega)]
/-- The worlds of the fourth loop. -/
structure Rnd3 (w wr : World) (h : S8) (D : Array Value) : Prop where
  b0 : wr.heap[w.heap.size]? = some (.cells (cells8 h) 109 (0, 0))
  b1 : wr.heap[w.heap.size + 1]? = some (.cells (cells8 ⟨0, 0, 0, 0, 0, 0, 0, 0⟩) 109 (0, 0))
  b4 : wr.heap[w.heap.size + 4]? = some (.cells D 109 (0, 0))
  below : Below w.heap.size w wr
theorem Rnd2.last {w wr : World} {h v : S8} {C : Array Value} (hr : Rnd2 w wr h C v) : Rnd3 w wr h (cells8 v) := ⟨hr.b0, hr.b1, hr.b4, hr.below⟩
theorem Rnd3.drew {w wr : World} {h : S8} {D : Array Value} (hr : Rnd3 w wr h D) : Rnd3 w wr.drew h D := ⟨hr.b0, hr.b1, hr.b4, hr.below.drew⟩
theorem Rnd3.set {w wr : World} {h : S8} {D : Array Value} (hr : Rnd3 w wr h D) (k : Nat) (x : Value) : Rnd3 w (wr.setCell ⟨w.heap.size + 4, k, none⟩ x) h (D.setIfInBounds k x) :=
  ⟨(heap_set_ne' (by omega) k x).trans hr.b0, (heap_set_ne' (by omega) k x).trans hr.b1, heap_set hr.b4 k x, hr.below.setCell (p := ⟨w.heap.size + 4, k, none⟩) (by show w.heap.size ≤ w.heap.size + 4; omega) x⟩
theorem add8_step {D : Array Value} {v h : S8} {n : Nat} (hn : n < 8) (hD : D.size = 8) (hA : ∀ j, j < 8 → D[j]? = some (.int .u32 (V (if j < n then at8 v j + at8 h j else at8 v j)))) :
    ∀ j, j < 8 → (D.setIfInBounds n (.int .u32 (V (at8 v n + at8 h n))))[j]? = some (.int .u32 (V (if j < n + 1 then at8 v j + at8 h j else at8 v j))) := by
  intro j hj
  by_cases e : j = n
  · subst e; rw [Array.getElem?_setIfInBounds_self_of_lt (by omega), if_pos (by omega)]
  · rw [Array.getElem?_setIfInBounds_ne (Ne.symm e), hA j hj]
    by_cases h2 : j < n
    · rw [if_pos h2, if_pos (by omega)]
    · rw [if_neg h2, if_neg (by omega)]

set_option maxRecDepth 100000 in
set_option maxHeartbeats 4000000 in
theorem round_any (h : S8) (b : List UInt8) (w : World) (hb : b.length = 64) :
    Calls Tryz.prog 77 #[.agg (cells8 h), .string ⟨b.toArray⟩] w (Ret w (.agg (cells8 (round h b)))) := by
  have hlen : (64 : Int) ≤ b.length := by omega
  have hlen2 : (b.length : Int) ≤ 64 := by omega
  unfold cells8
  go_enter Tryz.func77, Tryz.ntmps77
  go_upto_region 1 with (fail)
  go_cut [5] (fun s5 wx => s5 = .pointer (some ⟨w.heap.size + 1 + 1, 0, none⟩) ∧ Rnd1 w wx h)
  case first =>
    go_wp2_with (refine wpList_store_row rfl 132 _ _ rfl (w.heap.size + 1 + 1) (wordsV KK).toArray ?C 132 rfl ?hy ?hg ?hC info64 (wordsV_oneCell _) ?_)
    case hy => kernel_rfl
    case hg =>
      refine heap_new' _ _ _ ?_
      simp
    case hC => rfl
    intro w2 hg2 hs2 hb2
    have hr := rnd1_of w h _ w2 hg2 hs2 hb2
    clear hg2 hs2 hb2
    go_wp2_with (fail)
    go_meet
    exact ⟨rfl, hr⟩
  case rest =>
    obtain ⟨rfl, hr1⟩ := hcut
    have hsz := hr1.size
    have Hr1 := Lib.hid hr1
    have HS := Lib.hid hsz
    clear hr1 hsz
    go_upto_region 2 with (fail)
    go_cut [6] (fun s6 wx => s6 = .pointer (some ⟨w.heap.size + 1 + 1 + 1, 0, none⟩) ∧ ∃ C, C.size = 64 ∧ Rnd w wx h C)
    case first =>
      go_wp2_with (fail)
      go_meet
      refine ⟨by rw [HS.out], _, ?_, Hr1.out.next _⟩
      rfl
    case rest =>
      obtain ⟨rfl, C0, hC0, hr0⟩ := hcut
      have HR0 := Lib.hid hr0
      clear hr0
      go_wp2_with (fail)
      go_loopw [7, 21] (fun _ t21 wr => ∃ (k : Nat) (C : Array Value), k ≤ 16 ∧ t21 = .int .i64 k ∧ C.size = 64 ∧ Rnd w wr h C ∧ ∀ j, j < k → C[j]? = some (.int .u32 (V (wordAt b j)))) (fun _ t21 _ => 16 - (intOf t21).toNat)
      case atStart => exact ⟨0, C0, by omega, rfl, hC0, HR0.out, fun j hj => by omega⟩
      case round =>
        obtain ⟨k, C, hk, rfl, hC, hr, hT⟩ := hrel
        by_cases hlt : k < 16
        · have HT := Lib.hid hT
          have HR := Lib.hid hr
          clear hT hr hC0 HR0
          go_wp2_with (fail)
          have hi0 : 4 * k < b.length := by omega
          have hi1 : 4 * k + 1 < b.length := by omega
          have hi2 : 4 * k + 2 < b.length := by omega
          have hi3 : 4 * k + 3 < b.length := by omega
          have hk0 : (0 : Int) ≤ k := by omega
          have hfz : wr.frozen? ⟨w.heap.size + 1 + 1 + 1, k, none⟩ = false := frozen_of_row wr _ k C 132 HR.out.b3
          have hce : wr.cell? ⟨w.heap.size + 1 + 1 + 1, k, none⟩ = some (C[k]'(by omega)) := by
            rw [cell_of_row wr (w.heap.size + 1 + 1 + 1) k C 132 (0, 0) HR.out.b3]; exact Array.getElem?_eq_getElem (by omega)
          have hk64 : (k : Int) < 64 := by omega
          have e0 : IntKind.i64.wrap (4 * (k : Int)) = 4 * (k : Int) := IntWalk.i64_in _ (by omega)
          have e1 : IntKind.i64.wrap (4 * (k : Int) + 1) = 4 * (k : Int) + 1 := IntWalk.i64_in _ (by omega)
          have e2 : IntKind.i64.wrap (4 * (k : Int) + 2) = 4 * (k : Int) + 2 := IntWalk.i64_in _ (by omega)
          have e3 : IntKind.i64.wrap (4 * (k : Int) + 3) = 4 * (k : Int) + 3 := IntWalk.i64_in _ (by omega)
          have n0 : (4 * (k : Int)).toNat = 4 * k := by omega
          have n1 : (4 * (k : Int) + 1).toNat = 4 * k + 1 := by omega
          have n2 : (4 * (k : Int) + 2).toNat = 4 * k + 2 := by omega
          have n3 : (4 * (k : Int) + 3).toNat = 4 * k + 3 := by omega
          have p0 : 0 ≤ (4 * (k : Int)) := by omega
          have p1 : 0 ≤ (4 * (k : Int) + 1) := by omega
          have p2 : 0 ≤ (4 * (k : Int) + 2) := by omega
          have p3 : 0 ≤ (4 * (k : Int) + 3) := by omega
          have q0 : 4 * (k : Int) < 64 := by omega
          have q1 : 4 * (k : Int) + 1 < 64 := by omega
          have q2 : 4 * (k : Int) + 2 < 64 := by omega
          have q3 : 4 * (k : Int) + 3 < 64 := by omega
          have HW := Lib.hid (word_go (b[4 * k]) (b[4 * k + 1]) (b[4 * k + 2]) (b[4 * k + 3]))
          have HE := Lib.hid (wordAt_eq b k hi3)
          have HC := Lib.hid hC
          go_region
          clear e0 e1 e2 e3 hce hfz
          go_wp2_with (fail)
          go_roundw
          case rel =>
            refine ⟨k + 1, _, by omega, by go_num, ?_, HR.out.set k _, set_get (by have := HC.out; omega) ?_ HT.out⟩
            · simpa using HC.out
            · rw [HE.out, ← HW.out]
          case measure => simp [intOf]; omega
        · have hT16 : ∀ j, j < 16 → C[j]? = some (.int .u32 (V (WW b j))) := fun j hj => by rw [WW_first b hj]; exact hT j (by omega)
          have HT := Lib.hid hT16
          have HR := Lib.hid hr
          have HC := Lib.hid hC
          clear hT hT16 hr hC hC0 HR0
          go_wp2_with (fail)
          go_loopw [8, 9, 10, 11, 12] (fun t8 _ _ _ _ wr => ∃ (n : Nat) (C : Array Value), 16 ≤ n ∧ n ≤ 64 ∧ t8 = .int .i64 n ∧ Hid (C.size = 64) ∧ Hid (Rnd w wr h C) ∧ Hid (∀ j, j < n → C[j]? = some (.int .u32 (V (WW b j))))) (fun t8 _ _ _ _ _ => 64 - (intOf t8).toNat)
          case atStart => exact ⟨16, C, by omega, by omega, rfl, HC, HR, HT⟩
          case round =>
            clear HC HR HT C
            obtain ⟨n, C, hn1, hn2, rfl, HC, HR, HT⟩ := hrel
            by_cases hlt : n < 64
            · have hcell : ∀ j, j < n → wr.cell? ⟨w.heap.size + 1 + 1 + 1, j, none⟩ = some (Value.int .u32 (V (WW b j))) := fun j hj => by
                rw [cell_of_row wr (w.heap.size + 1 + 1 + 1) j C 132 (0, 0) HR.out.b3]; exact HT.out j hj
              have c15 := hcell (n - 15) (by omega)
              have c2 := hcell (n - 2) (by omega)
              have c16 := hcell (n - 16) (by omega)
              have c7 := hcell (n - 7) (by omega)
              have hfz : wr.frozen? ⟨w.heap.size + 1 + 1 + 1, n, none⟩ = false := frozen_of_row wr _ n C 132 HR.out.b3
              obtain ⟨v0, hce⟩ : ∃ v0, wr.cell? ⟨w.heap.size + 1 + 1 + 1, n, none⟩ = some v0 := by
                have hC := HC.out
                refine ⟨C[n]'(by omega), ?_⟩
                rw [cell_of_row wr (w.heap.size + 1 + 1 + 1) n C 132 (0, 0) HR.out.b3]; exact Array.getElem?_eq_getElem (by omega)
              clear hcell
              have e15 : IntKind.i64.wrap ((n : Int) - 15) = (n : Int) - 15 := IntWalk.i64_in _ (by omega)
              have e2 : IntKind.i64.wrap ((n : Int) - 2) = (n : Int) - 2 := IntWalk.i64_in _ (by omega)
              have e16 : IntKind.i64.wrap ((n : Int) - 16) = (n : Int) - 16 := IntWalk.i64_in _ (by omega)
              have e7 : IntKind.i64.wrap ((n : Int) - 7) = (n : Int) - 7 := IntWalk.i64_in _ (by omega)
              have n15 : ((n : Int) - 15).toNat = n - 15 := by omega
              have n2 : ((n : Int) - 2).toNat = n - 2 := by omega
              have n16 : ((n : Int) - 16).toNat = n - 16 := by omega
              have n7 : ((n : Int) - 7).toNat = n - 7 := by omega
              have p15 : 0 ≤ ((n : Int) - 15) := by omega
              have p2 : 0 ≤ ((n : Int) - 2) := by omega
              have p16 : 0 ≤ ((n : Int) - 16) := by omega
              have p7 : 0 ≤ ((n : Int) - 7) := by omega
              have q15 : ((n : Int) - 15) < 64 := by omega
              have q2 : ((n : Int) - 2) < 64 := by omega
              have q16 : ((n : Int) - 16) < 64 := by omega
              have q7 : ((n : Int) - 7) < 64 := by omega
              have hn0 : (0 : Int) ≤ n := by omega
              have hn64 : (n : Int) < 64 := by omega
              go_wp2_with (fail)
              go_region
              go_wp2_with (fail)
              refine (rotl_7 _ _).mono ?_
              rintro e w' ⟨rfl, rfl⟩
              go_wp2_with (fail)
              refine (rotl_18 _ _).mono ?_
              rintro e w' ⟨rfl, rfl⟩
              go_wp2_with (fail)
              refine (rotl_17 _ _).mono ?_
              rintro e w' ⟨rfl, rfl⟩
              go_wp2_with (fail)
              refine (rotl_19 _ _).mono ?_
              rintro e w' ⟨rfl, rfl⟩
              go_wp2_with (fail)
              go_region
              go_wp2_with (fail)
              go_roundw
              case rel =>
                refine ⟨n + 1, _, by omega, by omega, by go_num, ?_, Lib.hid (HR.out.set n _).drew, Lib.hid (set_get (by have := HC.out; omega) ?_ HT.out)⟩
                · exact Lib.hid (by simpa using HC.out)
                · rw [WW_next b hn1 hlt]; unfold sig0 sig1; rfl
              case measure => simp [intOf]; omega
            · have hT64 : ∀ j, j < 64 → C[j]? = some (.int .u32 (V (WW b j))) := fun j hj => HT.out j (by omega)
              have HT64 := Lib.hid hT64
              have hB := HR.out.b0
              unfold cells8 at hB
              have HB := Lib.hid hB
              clear hT64 HT hB
              have hz : wr.heap.size = w.heap.size + 1 + 1 + 1 + 1 := HR.out.size
              have HR2 := Lib.hid (HR.out.next h)
              clear HR
              go_wp2_with (refine wpList_load_row rfl 109 _ rfl w.heap.size rfl 109 _ (0, 0) _ HB.out Tryz.underlying109 rfl (by kernel_rfl) ?_)
              clear HB hz
              go_loopw [14, 15, 16, 17, 18, 100] (fun _ _ _ _ _ t100 wr => ∃ i : Nat, i ≤ 64 ∧ t100 = .int .i64 i ∧ Hid (Rnd2 w wr h C (runW (sched b 64) h i))) (fun _ _ _ _ _ t100 _ => 64 - (intOf t100).toNat)
              case atStart => exact ⟨0, by omega, rfl, HR2⟩
              case round =>
                clear HR2
                obtain ⟨i, hi, rfl, HR⟩ := hrel
                by_cases hlt : i < 64
                · have hstep : runW (sched b 64) h (i + 1) = Plain.step (runW (sched b 64) h i) (KK.getD i 0) (WW b i) := rfl
                  have hc := HR.out.all HT64.out i hlt
                  generalize hx : KK.getD i 0 = kx at *
                  generalize hy : WW b i = wx at *
                  generalize hv : runW (sched b 64) h i = v at *
                  have HS2 := Lib.hid hstep
                  have HX := Lib.hid hx
                  have HY := Lib.hid hy
                  clear hstep hx hy hv
                  obtain ⟨va, vb, vc, vd, ve, vf, vg, vh⟩ := v
                  obtain ⟨cw, ck, c0, c1, c2, c3, c4, c5, c6, c7⟩ := hc
                  have hi0 : (0 : Int) ≤ i := by omega
                  have hi64 : (i : Int) < 64 := by omega
                  go_wp2_with (fail)
                  go_quiet (fail)
                  go_wp2_with (fail)
                  have HR3 := Lib.hid (HR.out.drewN nq)
                  clear cw ck c0 c1 c2 c3 c4 c5 c6 c7 HR
                  generalize wr.drewN nq = w2 at *
                  have hc := HR3.out.all HT64.out i hlt
                  rw [HX.out, HY.out] at hc
                  obtain ⟨cw, ck, c0, c1, c2, c3, c4, c5, c6, c7⟩ := hc
                  refine wp_region_quiet_lit (by kernel_rfl) (by kernel_rfl) ?_
                  iterate 4 (go_big_quiet_step ((go_at_call 100; exact Calls.quiet_of_same (rotl_6 _ _))))
                  iterate 2 (go_big_quiet_step ((go_at_call 100; exact Calls.quiet_of_same (rotl_11 _ _))))
                  iterate 3 (go_big_quiet_step ((go_at_call 100; exact Calls.quiet_of_same (rotl_25 _ _))))
                  repeat (go_big_quiet_step (fail))
                  refine wpQuiet_nil ?_
                  rintro W ⟨nq2, rfl⟩
                  simp only [not_form, V_not, V_and, V_xor, V_add]
                  have HR4 := Lib.hid (HR3.out.drewN nq2)
                  clear cw ck c0 c1 c2 c3 c4 c5 c6 c7 HR3
                  generalize w2.drewN nq2 = w3 at HR4 ⊢
                  have hc := HR4.out.all HT64.out i hlt
                  obtain ⟨_, _, c0, c1, c2, c3, c4, c5, c6, c7⟩ := hc



                  go_wp2_with (fail)
                  refine wp_region_quiet_lit (by kernel_rfl) (by kernel_rfl) ?_
                  iterate 2 (go_big_quiet_step ((go_at_call 100; exact Calls.quiet_of_same (rotl_2 _ _))))
                  iterate 2 (go_big_quiet_step ((go_at_call 100; exact Calls.quiet_of_same (rotl_13 _ _))))
                  iterate 3 (go_big_quiet_step ((go_at_call 100; exact Calls.quiet_of_same (rotl_22 _ _))))
                  repeat (go_big_quiet_step (fail))
                  refine wpQuiet_nil ?_
                  rintro W ⟨nq3, rfl⟩
                  simp only [V_add]
                  have HR5 := Lib.hid (HR4.out.drewN nq3)
                  clear c0 c1 c2 c3 c4 c5 c6 c7 HR4
                  generalize w3.drewN nq3 = w4 at HR5 ⊢
                  have hc := HR5.out.all HT64.out i hlt
                  obtain ⟨_, _, c0, c1, c2, c3, c4, c5, c6, c7⟩ := hc

                  go_upto_region 22 with (fail)
                  have hB4 := HR5.out.b4
                  have HB4 := Lib.hid hB4
                  clear hB4
                  go_wp2_with (refine wpList_store_row rfl 109 _ _ rfl (w.heap.size + 1 + 1 + 1 + 1) ?cells4 ?C4 109 ?hx4 ?hy4 ?hg4 ?hC4 ?hi4 ?h14 ?_)
                  case C4 => exact cells8 ⟨va, vb, vc, vd, ve, vf, vg, vh⟩
                  case cells4 => exact cells8 (Plain.step ⟨va, vb, vc, vd, ve, vf, vg, vh⟩ kx wx)
                  case hy4 => exact cells8_step va vb vc vd ve vf vg vh kx wx
                  case hg4 => exact HB4.out
                  case hC4 => exact (cells8_size _).trans (cells8_size _).symm
                  case hi4 => exact Option.map_eq_some_iff.1 info8
                  case h14 => exact oneCell8 _
                  intro w5 hg5 hs5 hb5
                  have HR6 := Lib.hid (HR5.out.put hg5 _ hb5)
                  clear hg5 hs5 hb5 c0 c1 c2 c3 c4 c5 c6 c7
                  go_wp2_with (fail)
                  go_roundw
                  case rel => exact ⟨i + 1, by omega, by go_num, by rw [HS2.out]; exact HR6⟩
                  case measure => simp [intOf]; omega
                · have HF := Lib.hid (show Rnd3 w wr h (cells8 (runW (sched b 64) h 64)) by
                    have hr := HR.out.last
                    rwa [show i = 64 by omega] at hr)
                  have HRD : Hid (round h b = add8 (runW (sched b 64) h 64) h) := rfl
                  generalize hv : runW (sched b 64) h 64 = v at HF HRD
                  clear hv HR HT64
                  go_wp2_with (fail)
                  go_loopw [19, 182] (fun _ t182 wr => ∃ (n : Nat) (D : Array Value), n ≤ 8 ∧ t182 = .int .i64 n ∧ Hid (D.size = 8) ∧ Hid (Rnd3 w wr h D) ∧ Hid (∀ j, j < 8 → D[j]? = some (.int .u32 (V (if j < n then at8 v j + at8 h j else at8 v j))))) (fun _ t182 _ => 8 - (intOf t182).toNat)
                  case atStart => exact ⟨0, cells8 v, by omega, rfl, Lib.hid rfl, HF, Lib.hid (fun j hj => by rw [cells8_get v j hj, if_neg (by omega)])⟩
                  case round =>
                    clear HF
                    obtain ⟨m, D, hm, rfl, HD, HR, HA⟩ := hrel
                    by_cases hlt : m < 8
                    · have a0 : wr.cell? ⟨w.heap.size, m, none⟩ = some (Value.int .u32 (V (at8 h m))) := by
                        rw [cell_of_row wr (w.heap.size) m _ 109 (0, 0) HR.out.b0]; exact cells8_get h m hlt
                      have a4 : wr.cell? ⟨w.heap.size + 1 + 1 + 1 + 1, m, none⟩ = some (Value.int .u32 (V (at8 v m))) := by
                        rw [cell_of_row wr (w.heap.size + 1 + 1 + 1 + 1) m _ 109 (0, 0) HR.out.b4, HA.out m hlt, if_neg (by omega)]
                      have f4 : wr.frozen? ⟨w.heap.size + 1 + 1 + 1 + 1, m, none⟩ = false := frozen_of_row wr _ m D 109 HR.out.b4
                      have hm0 : (0 : Int) ≤ m := by omega
                      have hm8 : (m : Int) < 8 := by omega
                      go_wp2_with (fail)
                      go_region
                      go_wp2_with (fail)
                      exact ⟨⟨m + 1, _, by omega, by go_num, Lib.hid (by simpa using HD.out), Lib.hid (HR.out.set m _).drew, Lib.hid (add8_step hlt HD.out HA.out)⟩, by simp [intOf]; omega⟩
                    · have hDe : D = cells8 (round h b) := by
                        rw [HRD.out]
                        exact cells8_ext D _ HD.out (fun j hj => by rw [HA.out j hj, if_pos (by omega), at8_add])
                      subst hDe
                      have hB1 := HR.out.b1
                      have HB1 := Lib.hid hB1
                      have HB4 := Lib.hid HR.out.b4
                      clear hB1 HA HD
                      go_wp2_with (first | (refine wpList_load_row rfl 109 _ rfl (w.heap.size + 1 + 1 + 1 + 1) rfl 109 _ (0, 0) _ HB4.out Tryz.underlying109 rfl (by rw [cells8_size]; exact info8) ?_) | (refine wpList_store_row rfl 109 _ _ rfl (w.heap.size + 1) ?cells2 ?C2 109 ?hx2 ?hy2 ?hg2 ?hC2 ?hi2 ?h12 ?_))
                      case C2 => exact cells8 ⟨0, 0, 0, 0, 0, 0, 0, 0⟩
                      case cells2 => exact cells8 (round h b)
                      case hg2 => exact HB1.out
                      case hC2 => exact (cells8_size _).trans (cells8_size _).symm
                      case hi2 => rw [cells8_size]; exact info8
                      case h12 => exact Array.all_eq_true_iff_forall_mem.2 (fun x hx => by obtain ⟨i, hi, rfl⟩ := Array.mem_iff_getElem.1 hx; exact oneCell8 _ i hi)
                      case hy2 => rfl
                      intro w5 hg5 hs5 hb5
                      have hbelow := below_gb HR.out.below HR.out.below.size hg5 (by omega)
                      have HB5 := Lib.hid hb5
                      have HBe := Lib.hid hbelow
                      clear hg5 hs5 hb5 hbelow
                      go_wp2_with (fail)
                      refine bodyPost_ret (v := .agg (cells8 (round h b))) ?_ rfl ⟨rfl, HBe.out⟩
                      exact results_cell_row Tryz.results77 _ _ (w.heap.size + 1) 109 _ (0, 0) _ rfl HB5.out Tryz.underlying109 rfl (by rw [cells8_size]; exact info8)
end Go.Proofs.YtjajoiahgfafgaaGreatDoor
end
