/- Texts joined: Arch6. -/
import Derived.Test.YtjajoiahgfafgaaGreatDoorBArchWrites9
import Derived.Test.YtjajoiahgfafgaaGreatDoorBArchWrites10
set_option linter.unusedSimpArgs false
set_option linter.unusedVariables false

/- arch: the laws' awake; the document's Same. -/
section
set_option linter.unusedVariables false
namespace Go.Proofs.YtjajoiahgfafgaaGreatDoor
open Go.RowKit Plain

namespace Plain
def eqSAt (a b : List Stp) (i : Nat) : Bool := a.getD i default == b.getD i default
theorem eqS_rest {a b : List Stp} (h : a.length = b.length) : restOK (eqSAt a b) 0 a.length = (a == b) := by
  rw [restOK_all, Bool.eq_iff_iff, List.all_eq_true, beq_iff_eq]
  constructor
  · intro q
    refine List.ext_getElem h fun i h1 h2 => ?_
    have := q i (List.mem_range.2 h1)
    unfold eqSAt at this
    simpa [List.getD, h1, h2] using this
  · rintro rfl i hi
    unfold eqSAt; simp
theorem stp_ne {x y : Stp} : (x == y) = ((x.ino == y.ino) && (x.size == y.size) && (x.time == y.time)) := by
  obtain ⟨p, k, m⟩ := x
  obtain ⟨p', k', m'⟩ := y
  rw [Bool.eq_iff_iff]
  simp only [beq_iff_eq, Bool.and_eq_true, Stp.mk.injEq, and_assoc]
end Plain
theorem fields_stamp : (Tryz.prog.fieldsOf 55).toList.map (fun f => (f.name == "_", f.type, f.offset)) = [(false, 3, 0), (false, 3, 1), (false, 3, 2)] := by kernel_rfl
theorem stp_eq (W : World) (x y : Stp) : (Op.equalIn 10000 55 (.agg (stV x).toArray) (.agg (stV y).toArray)).run Tryz.prog W = .ok (((x.ino == y.ino) && ((x.size == y.size) && ((x.time == y.time) && true)))) W := by
  obtain ⟨p, k, m⟩ := x
  obtain ⟨p', k', m'⟩ := y
  rw [run_equalIn_agg (d := 9999) _ _ _ _ (by kernel_rfl) (by kernel_rfl)]
  have hf := fields_stamp
  revert hf
  generalize (Tryz.prog.fieldsOf 55).toList = fs
  intro hf
  obtain ⟨f0, f1, f2, rfl⟩ : ∃ f0 f1 f2, fs = [f0, f1, f2] := by
    have hl : fs.length = 3 := by simpa using congrArg List.length hf
    clear hf
    match fs, hl with
    | [f0, f1, f2], _ => exact ⟨f0, f1, f2, rfl⟩
  simp only [List.map_cons, List.map_nil, List.cons.injEq, Prod.mk.injEq, and_true] at hf
  obtain ⟨⟨n0, t0, o0⟩, ⟨n1, t1, o1⟩, ⟨n2, t2, o2⟩⟩ := hf
  have hI := fun {xs : Array Value} {off : Nat} {v : Value} (hx : xs[off]? = some v) => part_cell (W := W) (ty := 3) Tryz.underlying3 rfl hx
  refine eqFields_step n0 (a := .int .i64 p) (b := .int .i64 p') (by rw [t0, o0]; exact hI rfl) (by rw [t0, o0]; exact hI rfl) (by rw [t0, run_equalIn_int (d := 9998) _ _ _ _ _ _ Tryz.underlying3]) ?_
  refine eqFields_step n1 (a := .int .i64 k) (b := .int .i64 k') (by rw [t1, o1]; exact hI rfl) (by rw [t1, o1]; exact hI rfl) (by rw [t1, run_equalIn_int (d := 9998) _ _ _ _ _ _ Tryz.underlying3]) ?_
  exact eqFields_step n2 (a := .int .i64 m) (b := .int .i64 m') (by rw [t2, o2]; exact hI rfl) (by rw [t2, o2]; exact hI rfl) (by rw [t2, run_equalIn_int (d := 9998) _ _ _ _ _ _ Tryz.underlying3]) rfl
theorem stp_neq (W : World) (x y : Stp) : (binOp .neq 55 (.agg (stV x).toArray) (.agg (stV y).toArray)).run Tryz.prog W = .ok (.bool (!(x == y))) W := by
  rw [run_neq_struct, stp_eq, Result.andThen_ok, stp_ne]
  simp only [Bool.and_true, Bool.and_assoc]

set_option maxHeartbeats 4000000 in
set_option maxRecDepth 100000 in
theorem rsame_any (a b : List Nd) (A B : Option Addr) (c d : Nat) (w : World) (ha : IsRows w 4 A (a.map ndV)) (hb : IsRows w 4 B (b.map ndV)) (hla : a.length ≤ 9223372036854775807) (hlb : b.length ≤ 9223372036854775807) :
    Calls Tryz.prog 19 #[.slice A a.length c, .slice B b.length d] w (Ret w (.bool (a == b))) := by
  by_cases hl : a.length = b.length
  · have HRES := Lib.hid (eq_rest hl)
    have HA := Lib.hid (fun W (h : Below w.heap.size w W) => ha.below h)
    have HB := Lib.hid (fun W (h : Below w.heap.size w W) => hb.below h)
    generalize (a == b) = res at *
    have HL := Lib.hid hl
    rw [← hl]
    clear ha hb hl
    go_enter Tryz.func19, Tryz.ntmps19
    go_wp2_with (fail)
    go_loopw [5] (fun t5 W => ∃ (i : Nat), i ≤ a.length ∧ t5 = .int .i64 i ∧ Hid (restOK (eqAt a b) i a.length = res) ∧ Hid (Below w.heap.size w W)) (fun t5 _ => a.length - (intOf t5).toNat)
    case atStart => exact ⟨0, by omega, rfl, HRES, Lib.hid (Below.refl _ _)⟩
    case round =>
      clear HRES
      obtain ⟨i, hi, rfl, HE, HW⟩ := hrel
      have i0 : (0 : Int) ≤ i := by omega
      by_cases hlt : i < a.length
      · have i1 : (i : Int) < a.length := by omega
        have e1 : IntKind.i64.wrap ((i : Int) + 1) = (i : Int) + 1 := IntWalk.i64_in _ (by omega)
        obtain ⟨ad, rfl, c0, c1, c2, c3⟩ := node_cells (HA.out _ HW.out) hlt
        obtain ⟨bd, rfl, d0, d1, d2, d3⟩ := node_cells (HB.out _ HW.out) (i := i) (by rw [← HL.out]; exact hlt)
        have hat := restOK_at (f := eqAt a b) hlt
        rw [HE.out] at hat
        rw [show eqAt a b i = (a.getD i default == b.getD i default) from rfl] at hat
        generalize a.getD i default = x at *
        generalize b.getD i default = y at *
        obtain ⟨p, k, dd, m⟩ := x
        obtain ⟨p', k', dd', m'⟩ := y
        simp only at c0 c1 c2 c3 d0 d1 d2 d3
        have HAT := Lib.hid hat
        clear hat
        cases hxy : (({ path := p, kind := k, data := dd, mode := m } : Nd) == { path := p', kind := k', data := dd', mode := m' }) with
        | false =>
          have HNE := fun W => node_neq W ⟨p, k, dd, m⟩ ⟨p', k', dd', m'⟩
          rw [hxy] at HNE
          unfold ndV at HNE
          simp only [Bool.not_false] at HNE
          have HRF := Lib.hid (show res = false by rw [HAT.out, hxy]; rfl)
          clear hxy
          go_wp2_with (fail)
          go_quiet (fail)
          go_wp2_with (fail)
          go_ret
          exact ⟨by rw [HRF.out]; first | rfl | simp, below_drewN HW.out _⟩
        | true =>
          have HNE := fun W => node_neq W ⟨p, k, dd, m⟩ ⟨p', k', dd', m'⟩
          rw [hxy] at HNE
          unfold ndV at HNE
          simp only [Bool.not_true] at HNE
          have HRF := Lib.hid (show restOK (eqAt a b) (i + 1) a.length = res by rw [HAT.out, hxy, Bool.true_and])
          clear hxy
          go_wp2_with (fail)
          go_quiet (fail)
          go_wp2_with (fail)
          go_roundw
          case rel => exact ⟨i + 1, by omega, by go_num, HRF, Lib.hid (below_drewN HW.out _)⟩
          case measure => simp [intOf]; omega
      · obtain rfl : i = a.length := by omega
        have i1 : decide ((a.length : Int) < (a.length : Int)) = false := by rw [decide_eq_false_iff_not]; omega
        have HE2 := Lib.hid (show res = true by rw [← HE.out, restOK_end])
        go_wp2_with (fail)
        go_ret
        exact ⟨by rw [HE2.out]; first | rfl | simp, HW.out⟩
  · have h1 : ((a.length : Int) == (b.length : Int)) = false := by
      rw [beq_eq_false_iff_ne]; omega
    have HRES := Lib.hid (show (a == b) = false by rw [beq_eq_false_iff_ne]; intro e; exact hl (by rw [e]))
    rw [HRES.out]
    clear hl
    go_enter Tryz.func19, Tryz.ntmps19
    go_wp2_with (fail)
    go_ret
    exact ⟨rfl, Below.refl _ _⟩

set_option maxHeartbeats 4000000 in
set_option maxRecDepth 100000 in
theorem rstamps_any (a b : List Stp) (A B : Option Addr) (c d : Nat) (w : World) (ha : IsRows w 3 A (a.map stV)) (hb : IsRows w 3 B (b.map stV)) (hla : a.length ≤ 9223372036854775807) (hlb : b.length ≤ 9223372036854775807) :
    Calls Tryz.prog 34 #[.slice A a.length c, .slice B b.length d] w (Ret w (.bool (a == b))) := by
  by_cases hl : a.length = b.length
  · have HRES := Lib.hid (eqS_rest hl)
    have HA := Lib.hid (fun W (h : Below w.heap.size w W) => ha.below h)
    have HB := Lib.hid (fun W (h : Below w.heap.size w W) => hb.below h)
    generalize (a == b) = res at *
    have HL := Lib.hid hl
    rw [← hl]
    clear ha hb hl
    go_enter Tryz.func34, Tryz.ntmps34
    go_wp2_with (fail)
    go_loopw [5] (fun t5 W => ∃ (i : Nat), i ≤ a.length ∧ t5 = .int .i64 i ∧ Hid (restOK (eqSAt a b) i a.length = res) ∧ Hid (Below w.heap.size w W)) (fun t5 _ => a.length - (intOf t5).toNat)
    case atStart => exact ⟨0, by omega, rfl, HRES, Lib.hid (Below.refl _ _)⟩
    case round =>
      clear HRES
      obtain ⟨i, hi, rfl, HE, HW⟩ := hrel
      have i0 : (0 : Int) ≤ i := by omega
      by_cases hlt : i < a.length
      · have i1 : (i : Int) < a.length := by omega
        have e1 : IntKind.i64.wrap ((i : Int) + 1) = (i : Int) + 1 := IntWalk.i64_in _ (by omega)
        obtain ⟨ad, rfl, c0, c1, c2⟩ := stp_cells (HA.out _ HW.out) hlt
        obtain ⟨bd, rfl, d0, d1, d2⟩ := stp_cells (HB.out _ HW.out) (i := i) (by rw [← HL.out]; exact hlt)
        have hat := restOK_at (f := eqSAt a b) hlt
        rw [HE.out] at hat
        rw [show eqSAt a b i = (a.getD i default == b.getD i default) from rfl] at hat
        generalize a.getD i default = x at *
        generalize b.getD i default = y at *
        obtain ⟨p, k, m⟩ := x
        obtain ⟨p', k', m'⟩ := y
        simp only at c0 c1 c2 d0 d1 d2
        have HAT := Lib.hid hat
        clear hat
        cases hxy : (({ ino := p, size := k, time := m } : Stp) == { ino := p', size := k', time := m' }) with
        | false =>
          have HNE := fun W => stp_neq W ⟨p, k, m⟩ ⟨p', k', m'⟩
          rw [hxy] at HNE
          unfold stV at HNE
          simp only [Bool.not_false] at HNE
          have HRF := Lib.hid (show res = false by rw [HAT.out, hxy]; rfl)
          clear hxy
          go_wp2_with (fail)
          go_quiet (fail)
          go_wp2_with (fail)
          go_ret
          exact ⟨by rw [HRF.out]; first | rfl | simp, below_drewN HW.out _⟩
        | true =>
          have HNE := fun W => stp_neq W ⟨p, k, m⟩ ⟨p', k', m'⟩
          rw [hxy] at HNE
          unfold stV at HNE
          simp only [Bool.not_true] at HNE
          have HRF := Lib.hid (show restOK (eqSAt a b) (i + 1) a.length = res by rw [HAT.out, hxy, Bool.true_and])
          clear hxy
          go_wp2_with (fail)
          go_quiet (fail)
          go_wp2_with (fail)
          go_roundw
          case rel => exact ⟨i + 1, by omega, by go_num, HRF, Lib.hid (below_drewN HW.out _)⟩
          case measure => simp [intOf]; omega
      · obtain rfl : i = a.length := by omega
        have i1 : decide ((a.length : Int) < (a.length : Int)) = false := by rw [decide_eq_false_iff_not]; omega
        have HE2 := Lib.hid (show res = true by rw [← HE.out, restOK_end])
        go_wp2_with (fail)
        go_ret
        exact ⟨by rw [HE2.out]; first | rfl | simp, HW.out⟩
  · have h1 : ((a.length : Int) == (b.length : Int)) = false := by
      rw [beq_eq_false_iff_ne]; omega
    have HRES := Lib.hid (show (a == b) = false by rw [beq_eq_false_iff_ne]; intro e; exact hl (by rw [e]))
    rw [HRES.out]
    clear hl
    go_enter Tryz.func34, Tryz.ntmps34
    go_wp2_with (fail)
    go_ret
    exact ⟨rfl, Below.refl _ _⟩


namespace Plain
def awA : Arc := ⟨[112], 3, [], []⟩
theorem awA_ok : checkA awA = true := by decide
theorem awA_small : Small awA := ⟨by decide, fun s hs => by cases hs⟩
theorem awA_enc : encodeA awA = (record (payA awA), 0) := by unfold encodeA; rw [awA_ok]; rfl
theorem awA_dec : decodeA (record (payA awA)) = (awA, 0) := decode_back awA_ok awA_small
end Plain
theorem nil_rows (w : World) (n : Nat) : IsRows w n none [] := fun k hk => absurd hk (by simp)

set_option maxHeartbeats 2000000 in
set_option maxRecDepth 100000 in
theorem aawake_any (m : Int) (w : World) (hL : Laid w m) : Calls Tryz.prog 7 #[] w (Ret w (.bool true)) := by
  have HE := Lib.hid (encode_any awA none 0 none 0 m w hL ⟨nil_rows _ _, nil_rows _ _, Nat.le_refl _, Nat.le_refl _, Nat.zero_le _, Nat.zero_le _, fun n hn => (by cases hn), by decide⟩ awA_small)
  have HD := Lib.hid (fun W (h : Below w.heap.size w W) => decode_any (record (payA awA)) m W (hL.below h) (by rw [record_length]; have := payA_length awA_ok; omega))
  rw [awA_enc] at HE
  rw [awA_dec] at HD
  simp only at HE
  generalize record (payA awA) = s at *
  clear hL
  go_enter Tryz.func7, Tryz.ntmps7
  go_wp2_with (fail)
  refine HE.out.mono ?_
  rintro e w1 ⟨rfl, hw1⟩
  have HB1 := Lib.hid hw1
  clear hw1
  go_wp2_with (fail)
  refine (HD.out _ HB1.out).mono ?_
  rintro e w2 ⟨A, c, B, d, rfl, -, hw2⟩
  have HB2 := Lib.hid (HB1.out.trans (hw2.mono HB1.out.size))
  clear hw2
  unfold arV awA
  go_wp2_with (fail)
  go_ret
  exact ⟨rfl, HB2.out.alloc HB2.out.size _⟩


set_option maxHeartbeats 2000000 in
set_option maxRecDepth 100000 in
theorem rarch_any (a b : Arc) (A : Option Addr) (c : Nat) (B : Option Addr) (d : Nat) (A' : Option Addr) (c' : Nat) (B' : Option Addr) (d' : Nat) (w : World) (hA : ArAt a A c B d w) (hB : ArAt b A' c' B' d' w) :
    Calls Tryz.prog 10 #[.agg (arV a A c B d).toArray, .agg (arV b A' c' B' d').toArray] w (Ret w (.bool ((a.pair == b.pair) && (a.serial == b.serial) && (a.tree == b.tree) && (a.stamps == b.stamps)))) := by
  have HSM := Lib.hid (fun W (h : Below w.heap.size w W) => rsame_any a.tree b.tree A A' c c' W (hA.rows.below h) (hB.rows.below h) hA.lenN hB.lenN)
  have HST := Lib.hid (fun W (h : Below w.heap.size w W) => rstamps_any a.stamps b.stamps B B' d d' W (hA.stps.below h) (hB.stps.below h) hA.lenS hB.lenS)
  obtain ⟨w0, hw0⟩ : ∃ w0, (w.alloc (.cells (arV a A c B d).toArray 26)).alloc (.cells (arV b A' c' B' d').toArray 26) = w0 := ⟨_, rfl⟩
  have HB0 := Lib.hid (show Below w.heap.size w w0 by rw [← hw0]; exact ((Below.refl w.heap.size w).alloc (Nat.le_refl _) _).alloc (by simp) _)
  have HS0 := Lib.hid (show w0.heap.size = w.heap.size + 2 by rw [← hw0]; simp)
  have HRA := Lib.hid (show w0.heap[w.heap.size]? = some (.cells (arV a A c B d).toArray 26 (0, 0)) by rw [← hw0, Below.heap_alloc _ _ _ (by simp)]; exact heap_alloc_new _ _)
  have HRB := Lib.hid (show w0.heap[w.heap.size + 1]? = some (.cells (arV b A' c' B' d').toArray 26 (0, 0)) by have := heap_alloc_new (w.alloc (.cells (arV a A c B d).toArray 26)) (.cells (arV b A' c' B' d').toArray 26); rw [← hw0]; simpa using this)
  have HW0 := Lib.hid hw0
  clear hA hB hw0
  obtain ⟨pair, serial, tree, stamps⟩ := a
  obtain ⟨pair', serial', tree', stamps'⟩ := b
  unfold arV at *
  simp only at HSM HST HRA HRB HW0 ⊢
  generalize (tree == tree') = bt at *
  generalize (stamps == stamps') = bs at *
  cases hpp : (pair == pair') with
  | false =>
    simp only [Bool.false_and]
    go_enter Tryz.func10, Tryz.ntmps10
    go_upto_region 1 with (fail)
    rw [HW0.out]
    have ta0 := cell_of_row w0 _ 0 _ _ _ HRA.out; have tb0 := cell_of_row w0 _ 0 _ _ _ HRB.out; have ta1 := cell_of_row w0 _ 1 _ _ _ HRA.out; have tb1 := cell_of_row w0 _ 1 _ _ _ HRB.out; have ta2 := cell_of_row w0 _ 2 _ _ _ HRA.out; have tb2 := cell_of_row w0 _ 2 _ _ _ HRB.out; have ta3 := cell_of_row w0 _ 3 _ _ _ HRA.out; have tb3 := cell_of_row w0 _ 3 _ _ _ HRB.out
    go_wp2_with (fail)
    go_ret
    exact ⟨rfl, HB0.out⟩
  | true =>
  cases hss : (serial == serial') with
  | false =>
    simp only [Bool.false_and, Bool.and_false]
    go_enter Tryz.func10, Tryz.ntmps10
    go_upto_region 1 with (fail)
    rw [HW0.out]
    have ta0 := cell_of_row w0 _ 0 _ _ _ HRA.out; have tb0 := cell_of_row w0 _ 0 _ _ _ HRB.out; have ta1 := cell_of_row w0 _ 1 _ _ _ HRA.out; have tb1 := cell_of_row w0 _ 1 _ _ _ HRB.out; have ta2 := cell_of_row w0 _ 2 _ _ _ HRA.out; have tb2 := cell_of_row w0 _ 2 _ _ _ HRB.out; have ta3 := cell_of_row w0 _ 3 _ _ _ HRA.out; have tb3 := cell_of_row w0 _ 3 _ _ _ HRB.out
    go_wp2_with (fail)
    go_ret
    exact ⟨rfl, HB0.out⟩
  | true =>
  simp only [Bool.true_and]
  cases bt with
  | false =>
    simp only [Bool.false_and]
    go_enter Tryz.func10, Tryz.ntmps10
    go_upto_region 1 with (fail)
    rw [HW0.out]
    have ta0 := cell_of_row w0 _ 0 _ _ _ HRA.out; have tb0 := cell_of_row w0 _ 0 _ _ _ HRB.out; have ta1 := cell_of_row w0 _ 1 _ _ _ HRA.out; have tb1 := cell_of_row w0 _ 1 _ _ _ HRB.out; have ta2 := cell_of_row w0 _ 2 _ _ _ HRA.out; have tb2 := cell_of_row w0 _ 2 _ _ _ HRB.out; have ta3 := cell_of_row w0 _ 3 _ _ _ HRA.out; have tb3 := cell_of_row w0 _ 3 _ _ _ HRB.out
    go_wp2_with (fail)
    refine (HSM.out _ HB0.out).mono ?_
    rintro e w1 ⟨rfl, hw1⟩
    go_wp2_with (fail)
    go_ret
    exact ⟨rfl, HB0.out.trans (hw1.mono HB0.out.size)⟩
  | true =>
    simp only [Bool.true_and]
    go_enter Tryz.func10, Tryz.ntmps10
    go_upto_region 1 with (fail)
    rw [HW0.out]
    have ta0 := cell_of_row w0 _ 0 _ _ _ HRA.out; have tb0 := cell_of_row w0 _ 0 _ _ _ HRB.out; have ta1 := cell_of_row w0 _ 1 _ _ _ HRA.out; have tb1 := cell_of_row w0 _ 1 _ _ _ HRB.out; have ta2 := cell_of_row w0 _ 2 _ _ _ HRA.out; have tb2 := cell_of_row w0 _ 2 _ _ _ HRB.out; have ta3 := cell_of_row w0 _ 3 _ _ _ HRA.out; have tb3 := cell_of_row w0 _ 3 _ _ _ HRB.out
    go_wp2_with (fail)
    refine (HSM.out _ HB0.out).mono ?_
    rintro e w1 ⟨rfl, hw1⟩
    have HB1 := Lib.hid (HB0.out.trans (hw1.mono HB0.out.size))
    have r3 := cell_of_row w1 _ 3 _ _ _ ((hw1.block _ (lt_of_heap HRA.out)).trans HRA.out)
    have s3 := cell_of_row w1 _ 3 _ _ _ ((hw1.block _ (lt_of_heap HRB.out)).trans HRB.out)
    clear hw1 ta0 ta1 ta2 ta3 tb0 tb1 tb2 tb3
    go_wp2_with (fail)
    refine (HST.out _ HB1.out).mono ?_
    rintro e w2 ⟨rfl, hw2⟩
    go_wp2_with (fail)
    go_ret
    exact ⟨rfl, HB1.out.trans (hw2.mono HB1.out.size)⟩
end Go.Proofs.YtjajoiahgfafgaaGreatDoor
end
